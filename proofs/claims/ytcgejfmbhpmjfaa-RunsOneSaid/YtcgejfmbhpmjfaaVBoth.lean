/- The reference sort: single ones, always two and two merged. -/
import Derived.Test.YtcgejfmbhpmjfaaVComp
set_option linter.unusedSimpArgs false
set_option linter.unusedVariables false
set_option maxRecDepth 20000
namespace Go.Proofs.Ytcgejfmbhpmjfaa
open Go Go.V
-- 71: pith/pithref11.same
-- 46: pith/pithref11.both
-- 17: pith/pithref11.Sort
-- 13: pith/pithref11.Less
-- 3: int
-- 24: pith/api.Pair
-- 22: []api.Pair

theorem F71 (p q : Pr) (H : Heap) : Fun Try.prog 71 #[pv p, pv q] H (fun r H' => r = .bool (decide (p = q)) ∧ Ext H H') := by
  refine fun_of mixed (args := [_, _]) Try.func71 Try.ntmps71 b71 r71 rfl ?_
  have hx1 : Ext H ((H.push (.cells #[.int .i64 p.1, .int .i64 p.2] 24)).push (.cells #[.int .i64 q.1, .int .i64 q.2] 24)) := (Ext.push _).trans ((Ext.push _).mono (by simp))
  by_cases h1 : p.1 = q.1
  · by_cases h2 : p.2 = q.2
    · have e : p = q := Prod.ext h1 h2
      subst e
      simp only [go_sem, ↓reduceIte, Nat.reduceEqDiff, Nat.reduceLeDiff, Nat.reduceAdd, Nat.reduceMul, Nat.reduceSub, Nat.reduceBEq, Nat.reduceGT, Nat.reduceLT, Int.reduceLE, Int.reduceLT, Int.reduceNeg, reduceCtorEq, pv, decide_true]
      exact hx1
    · have e : ¬ p = q := fun h => h2 (by rw [h])
      simp only [go_sem, ↓reduceIte, Nat.reduceEqDiff, Nat.reduceLeDiff, Nat.reduceAdd, Nat.reduceMul, Nat.reduceSub, Nat.reduceBEq, Nat.reduceGT, Nat.reduceLT, Int.reduceLE, Int.reduceLT, Int.reduceNeg, reduceCtorEq, pv, h1, h2, e, decide_true, decide_false]
      rw [h1] at hx1
      exact hx1
  · have e : ¬ p = q := fun h => h1 (by rw [h])
    simp only [go_sem, ↓reduceIte, Nat.reduceEqDiff, Nat.reduceLeDiff, Nat.reduceAdd, Nat.reduceMul, Nat.reduceSub, Nat.reduceBEq, Nat.reduceGT, Nat.reduceLT, Int.reduceLE, Int.reduceLT, Int.reduceNeg, reduceCtorEq, pv, h1, e, decide_false]
    exact hx1

/-! ### Plain: two rising lists merged -/
theorem up_drop {a : List Pr} (h : Up a) {i : Nat} (hi : i < a.length) : ∀ y ∈ a.drop (i + 1), ltP (a.getD i (0, 0)) y = true := by
  intro y hy
  unfold Up at h
  rw [← List.take_append_drop i a, List.pairwise_append] at h
  have h2 := h.2.1
  rw [List.drop_eq_getElem_cons hi, List.pairwise_cons] at h2
  rw [List.getD_eq_getElem?_getD, List.getElem?_eq_getElem hi]
  exact h2.1 y hy
theorem drop_getD {a : List Pr} {i : Nat} (hi : i < a.length) : a.drop i = a.getD i (0, 0) :: a.drop (i + 1) := by
  rw [List.drop_eq_getElem_cons hi, List.getD_eq_getElem?_getD, List.getElem?_eq_getElem hi]
  rfl
structure BI (a b : List Pr) (i k : Nat) (l : List Pr) : Prop where
  hi : i ≤ a.length
  hk : k ≤ b.length
  up : Up l
  mem : ∀ x, x ∈ l ↔ x ∈ a.take i ∨ x ∈ b.take k
  sa : ∀ x ∈ l, ∀ y ∈ a.drop i, ltP x y = true
  sb : ∀ x ∈ l, ∀ y ∈ b.drop k, ltP x y = true
  len : l.length ≤ i + k
theorem BI.start (a b : List Pr) : BI a b 0 0 [] := ⟨Nat.zero_le _, Nat.zero_le _, List.Pairwise.nil, by simp, by simp, by simp, by simp⟩
theorem BI.step {a b l : List Pr} {i k i' k' : Nat} {p : Pr} (h : BI a b i k l) (hp : p ∈ a.drop i ∨ p ∈ b.drop k) (ha : ∀ y ∈ a.drop i', ltP p y = true) (hb : ∀ y ∈ b.drop k', ltP p y = true)
    (h1 : i ≤ i') (h2 : k ≤ k') (h3 : i + k < i' + k') (h4 : i' ≤ a.length) (h5 : k' ≤ b.length) (hm : ∀ x, (x ∈ a.take i' ∨ x ∈ b.take k') ↔ ((x ∈ a.take i ∨ x ∈ b.take k) ∨ x = p)) : BI a b i' k' (l ++ [p]) := by
  have hlp : ∀ x ∈ l, ltP x p = true := fun x hx => hp.elim (h.sa x hx p) (h.sb x hx p)
  have sub : ∀ {c : List Pr} {m m' : Nat}, m ≤ m' → ∀ y ∈ c.drop m', y ∈ c.drop m := fun {c m m'} hm y hy => by
    have : c.drop m' = (c.drop m).drop (m' - m) := by rw [List.drop_drop]; congr 1; omega
    rw [this] at hy
    exact List.mem_of_mem_drop hy
  refine ⟨h4, h5, ?_, ?_, ?_, ?_, ?_⟩
  · unfold Up
    rw [List.pairwise_append]
    exact ⟨h.up, List.pairwise_singleton _ _, fun x hx y hy => by rw [List.mem_singleton] at hy; rw [hy]; exact hlp x hx⟩
  · intro x
    rw [List.mem_append, List.mem_singleton, h.mem, hm]
  · intro x hx y hy
    rw [List.mem_append, List.mem_singleton] at hx
    rcases hx with hx | rfl
    · exact h.sa x hx y (sub h1 y hy)
    · exact ha y hy
  · intro x hx y hy
    rw [List.mem_append, List.mem_singleton] at hx
    rcases hx with hx | rfl
    · exact h.sb x hx y (sub h2 y hy)
    · exact hb y hy
  · have := h.len
    simp; omega
theorem take_mem {a : List Pr} {i : Nat} (hi : i < a.length) (x : Pr) : x ∈ a.take (i + 1) ↔ x ∈ a.take i ∨ x = a.getD i (0, 0) := by
  rw [take_succ_getD hi (0, 0), List.mem_append, List.mem_singleton]
theorem BI.stepA {a b l : List Pr} {i k : Nat} (h : BI a b i k l) (ua : Up a) (ub : Up b) (hi : i < a.length) (hc : k = b.length ∨ ltP (a.getD i (0, 0)) (b.getD k (0, 0)) = true) : BI a b (i + 1) k (l ++ [a.getD i (0, 0)]) := by
  refine h.step (.inl ?_) (up_drop ua hi) ?_ (by omega) (Nat.le_refl _) (by omega) hi h.hk fun x => ?_
  · rw [drop_getD hi]; simp
  · intro y hy
    rcases hc with hc | hc
    · rw [List.drop_of_length_le (by omega)] at hy; simp at hy
    · by_cases hk : k < b.length
      · rw [drop_getD hk, List.mem_cons] at hy
        rcases hy with rfl | hy
        · exact hc
        · exact lt_trans' hc (up_drop ub hk y hy)
      · rw [List.drop_of_length_le (by omega)] at hy; simp at hy
  · rw [take_mem hi, or_right_comm]
theorem BI.stepB {a b l : List Pr} {i k : Nat} (h : BI a b i k l) (ua : Up a) (ub : Up b) (hk : k < b.length) (hc : i = a.length ∨ ltP (b.getD k (0, 0)) (a.getD i (0, 0)) = true) : BI a b i (k + 1) (l ++ [b.getD k (0, 0)]) := by
  refine h.step (.inr ?_) ?_ (up_drop ub hk) (Nat.le_refl _) (by omega) (by omega) h.hi hk fun x => ?_
  · rw [drop_getD hk]; simp
  · intro y hy
    rcases hc with hc | hc
    · rw [List.drop_of_length_le (by omega)] at hy; simp at hy
    · by_cases hi : i < a.length
      · rw [drop_getD hi, List.mem_cons] at hy
        rcases hy with rfl | hy
        · exact hc
        · exact lt_trans' hc (up_drop ua hi y hy)
      · rw [List.drop_of_length_le (by omega)] at hy; simp at hy
  · rw [take_mem hk, or_assoc]
theorem BI.stepC {a b l : List Pr} {i k : Nat} (h : BI a b i k l) (ua : Up a) (ub : Up b) (hi : i < a.length) (hk : k < b.length) (hc : a.getD i (0, 0) = b.getD k (0, 0)) : BI a b (i + 1) (k + 1) (l ++ [b.getD k (0, 0)]) := by
  refine h.step (.inr ?_) ?_ (up_drop ub hk) (by omega) (by omega) (by omega) hi hk fun x => ?_
  · rw [drop_getD hk]; simp
  · rw [← hc]; exact up_drop ua hi
  · rw [take_mem hk, take_mem hi, hc]
    constructor
    · rintro ((h | h) | (h | h))
      · exact .inl (.inl h)
      · exact .inr h
      · exact .inl (.inr h)
      · exact .inr h
    · rintro ((h | h) | h)
      · exact .inl (.inl h)
      · exact .inr (.inl h)
      · exact .inr (.inr h)
theorem BI.done {a b l : List Pr} (h : BI a b a.length b.length l) : Up l ∧ (∀ x, x ∈ l ↔ x ∈ a ∨ x ∈ b) ∧ l.length ≤ a.length + b.length :=
  ⟨h.up, fun x => by rw [h.mem, List.take_length, List.take_length], h.len⟩

set_option maxHeartbeats 1600000 in
theorem F46 (v u : Value) (xs ys : List Pr) (H : Heap) (hv : Prs H v xs) (hu : Prs H u ys) (ux : Up xs) (uy : Up ys) (hl : xs.length + ys.length ≤ 8796093020000) :
    Fun Try.prog 46 #[v, u] H (fun r H' => (∃ l, Own H' H.size 24 2 r (cp l) ∧ Up l ∧ (∀ x, x ∈ l ↔ x ∈ xs ∨ x ∈ ys) ∧ l.length ≤ xs.length + ys.length) ∧ Ext H H') := by
  obtain ⟨a, c, rfl⟩ := prs_form hv
  obtain ⟨a', c', rfl⟩ := prs_form hu
  refine fun_of mixed (args := [_, _]) Try.func46 Try.ntmps46 b46 r46 rfl ?_
  have w0 : IntKind.i64.wrap ((xs.length : Int) + ys.length) = ((xs.length + ys.length : Nat) : Int) := by rw [w64_id (by omega) (by omega)]; omega
  simp only [go_sem, ↓reduceIte, Nat.reduceEqDiff, Nat.reduceLeDiff, Nat.reduceAdd, Nat.reduceMul, Nat.reduceSub, Nat.reduceBEq, Nat.reduceGT, Nat.reduceLT, Int.reduceLE, Int.reduceLT, Int.reduceNeg, reduceCtorEq, w0]
  refine ⟨by omega, by omega, by omega, ?_⟩
  refine LoopI.by mixed (fun ρ H' => ∃ (i k : Nat) (l : List Pr) (v' : Value), ρ 0 = .slice a xs.length c ∧ ρ 1 = .slice a' ys.length c' ∧ ρ 5 = v' ∧ ρ 6 = .int .i64 i ∧ ρ 7 = .int .i64 k ∧ Own H' H.size 24 2 v' (cp l) ∧ BI xs ys i k l ∧ Ext H H')
    (fun ρ _ => xs.length + ys.length - ((iof (ρ 6)).toNat + (iof (ρ 7)).toNat)) ?_ ?_
  · refine ⟨0, 0, [], _, by simp only [go_sem, ↓reduceIte, Nat.reduceEqDiff, Nat.reduceLeDiff, Nat.reduceAdd, Nat.reduceMul, Nat.reduceSub, Nat.reduceBEq, Nat.reduceGT, Nat.reduceLT, Int.reduceLE, Int.reduceLT, Int.reduceNeg, reduceCtorEq], by simp only [go_sem, ↓reduceIte, Nat.reduceEqDiff, Nat.reduceLeDiff, Nat.reduceAdd, Nat.reduceMul, Nat.reduceSub, Nat.reduceBEq, Nat.reduceGT, Nat.reduceLT, Int.reduceLE, Int.reduceLT, Int.reduceNeg, reduceCtorEq], rfl, by simp only [go_sem, ↓reduceIte, Nat.reduceEqDiff, Nat.reduceLeDiff, Nat.reduceAdd, Nat.reduceMul, Nat.reduceSub, Nat.reduceBEq, Nat.reduceGT, Nat.reduceLT, Int.reduceLE, Int.reduceLT, Int.reduceNeg, reduceCtorEq]; rfl, by simp only [go_sem, ↓reduceIte, Nat.reduceEqDiff, Nat.reduceLeDiff, Nat.reduceAdd, Nat.reduceMul, Nat.reduceSub, Nat.reduceBEq, Nat.reduceGT, Nat.reduceLT, Int.reduceLE, Int.reduceLT, Int.reduceNeg, reduceCtorEq]; rfl, ?_, BI.start _ _, Ext.push _⟩
    have := Own.made (H := H) (B := H.size) (e := 24) (sz := 2) (l := 0) (c := xs.length + ys.length) (z := .agg #[.int .i64 0, .int .i64 0]) (Nat.le_refl _) (by omega) (by omega)
    rw [Nat.zero_mul, List.take_zero] at this
    simp only [go_sem, ↓reduceIte, Nat.reduceEqDiff, Nat.reduceLeDiff, Nat.reduceAdd, Nat.reduceMul, Nat.reduceSub, Nat.reduceBEq, Nat.reduceGT, Nat.reduceLT, Int.reduceLE, Int.reduceLT, Int.reduceNeg, reduceCtorEq]
    exact this
  rintro ρ H1 ⟨i, k, l, v', e0, e1, e5, e6, e7, ho, bi, hx⟩
  have hi := bi.hi
  have hk := bi.hk
  have hll := bi.len
  have wi : IntKind.i64.wrap ((i : Int) + 1) = ((i + 1 : Nat) : Int) := by rw [w64_id (by omega) (by omega)]; omega
  have wk : IntKind.i64.wrap ((k : Int) + 1) = ((k + 1 : Nat) : Int) := by rw [w64_id (by omega) (by omega)]; omega
  have zi : (0 : Int) ≤ i := by omega
  have zk : (0 : Int) ≤ k := by omega
  by_cases hi' : i < xs.length
  · have ci : (i : Int) < xs.length := by omega
    obtain ⟨b, o, rfl⟩ := prs_at hv (by omega)
    obtain ⟨g1, g2⟩ := prs_get (prs_ext hv hx) hi'
    by_cases hk' : k < ys.length
    · have ck : ¬ (k : Int) = ys.length := by omega
      have ck' : (k : Int) < ys.length := by omega
      obtain ⟨b', o', rfl⟩ := prs_at hu (by omega)
      obtain ⟨g3, g4⟩ := prs_get (prs_ext hu hx) hk'
      simp only [go_sem, ↓reduceIte, Nat.reduceEqDiff, Nat.reduceLeDiff, Nat.reduceAdd, Nat.reduceMul, Nat.reduceSub, Nat.reduceBEq, Nat.reduceGT, Nat.reduceLT, Int.reduceLE, Int.reduceLT, Int.reduceNeg, reduceCtorEq, c46_L0, e0, e1, e5, e6, e7, ci, ck, ck', g1, g2, g3, g4, zi, zk, Int.toNat_natCast, Option.bind_some, ext_push, ext_refl, decide_true, decide_false]
      refine FunI.by (F13 (xs.getD i (0, 0)) (ys.getD k (0, 0)) H1) ?_
      rintro _ H2 ⟨rfl, x2⟩
      have hx2 := hx.trans (x2.mono hx.size)
      have ho2 := ho.ext x2
      obtain ⟨g1, g2⟩ := prs_get (prs_ext hv hx2) hi'
      obtain ⟨g3, g4⟩ := prs_get (prs_ext hu hx2) hk'
      cases hlt : ltP (xs.getD i (0, 0)) (ys.getD k (0, 0)) with
      | true =>
        simp only [go_sem, ↓reduceIte, Nat.reduceEqDiff, Nat.reduceLeDiff, Nat.reduceAdd, Nat.reduceMul, Nat.reduceSub, Nat.reduceBEq, Nat.reduceGT, Nat.reduceLT, Int.reduceLE, Int.reduceLT, Int.reduceNeg, reduceCtorEq, e0, e1, e5, e6, e7, ci, g1, g2, zi, zk, Int.toNat_natCast, Option.bind_some, ext_push, ext_refl, decide_true, decide_false]
        refine RunI.by (append_lit ty22 ty24 rfl (by decide) ho2 (ys := [.int .i64 (xs.getD i (0, 0)).1, .int .i64 (xs.getD i (0, 0)).2]) (m := 1) rfl rfl (n := l.length + 1) (by rw [cp_len]; simp; omega) (by omega) (by omega) hx2.size) ?_
        rintro v2 H5 ⟨q1, q2, _⟩
        simp only [go_sem, ↓reduceIte, Nat.reduceEqDiff, Nat.reduceLeDiff, Nat.reduceAdd, Nat.reduceMul, Nat.reduceSub, Nat.reduceBEq, Nat.reduceGT, Nat.reduceLT, Int.reduceLE, Int.reduceLT, Int.reduceNeg, reduceCtorEq, e0, e1, e5, e6, e7, wi]
        refine ⟨Hold.mk ⟨i + 1, k, l ++ [xs.getD i (0, 0)], v2, by simp only [go_sem, ↓reduceIte, Nat.reduceEqDiff, Nat.reduceLeDiff, Nat.reduceAdd, Nat.reduceMul, Nat.reduceSub, Nat.reduceBEq, Nat.reduceGT, Nat.reduceLT, Int.reduceLE, Int.reduceLT, Int.reduceNeg, reduceCtorEq, e0], by simp only [go_sem, ↓reduceIte, Nat.reduceEqDiff, Nat.reduceLeDiff, Nat.reduceAdd, Nat.reduceMul, Nat.reduceSub, Nat.reduceBEq, Nat.reduceGT, Nat.reduceLT, Int.reduceLE, Int.reduceLT, Int.reduceNeg, reduceCtorEq, e1], by simp only [go_sem, ↓reduceIte, Nat.reduceEqDiff, Nat.reduceLeDiff, Nat.reduceAdd, Nat.reduceMul, Nat.reduceSub, Nat.reduceBEq, Nat.reduceGT, Nat.reduceLT, Int.reduceLE, Int.reduceLT, Int.reduceNeg, reduceCtorEq], by simp only [go_sem, ↓reduceIte, Nat.reduceEqDiff, Nat.reduceLeDiff, Nat.reduceAdd, Nat.reduceMul, Nat.reduceSub, Nat.reduceBEq, Nat.reduceGT, Nat.reduceLT, Int.reduceLE, Int.reduceLT, Int.reduceNeg, reduceCtorEq, e6], by simp only [go_sem, ↓reduceIte, Nat.reduceEqDiff, Nat.reduceLeDiff, Nat.reduceAdd, Nat.reduceMul, Nat.reduceSub, Nat.reduceBEq, Nat.reduceGT, Nat.reduceLT, Int.reduceLE, Int.reduceLT, Int.reduceNeg, reduceCtorEq, e7], by rw [cp_app]; exact q1, bi.stepA ux uy hi' (.inr hlt), hx2.trans (q2.upto ho2 hx2.size)⟩, by omega⟩
      | false =>
        simp only [go_sem, ↓reduceIte, Nat.reduceEqDiff, Nat.reduceLeDiff, Nat.reduceAdd, Nat.reduceMul, Nat.reduceSub, Nat.reduceBEq, Nat.reduceGT, Nat.reduceLT, Int.reduceLE, Int.reduceLT, Int.reduceNeg, reduceCtorEq, e0, e1, e5, e6, e7, ci, ck', g1, g2, g3, g4, zi, zk, Int.toNat_natCast, Option.bind_some, ext_push, ext_refl, decide_true, decide_false]
        refine FunI.by (F71 (xs.getD i (0, 0)) (ys.getD k (0, 0)) H2) ?_
        rintro _ H3 ⟨rfl, x3⟩
        have hx3 := hx2.trans (x3.mono hx2.size)
        have ho3 := ho2.ext x3
        obtain ⟨g3, g4⟩ := prs_get (prs_ext hu hx3) hk'
        by_cases he : xs.getD i (0, 0) = ys.getD k (0, 0)
        · have hd : decide (xs.getD i (0, 0) = ys.getD k (0, 0)) = true := decide_eq_true he
          simp only [go_sem, ↓reduceIte, Nat.reduceEqDiff, Nat.reduceLeDiff, Nat.reduceAdd, Nat.reduceMul, Nat.reduceSub, Nat.reduceBEq, Nat.reduceGT, Nat.reduceLT, Int.reduceLE, Int.reduceLT, Int.reduceNeg, reduceCtorEq, hd, e0, e1, e5, e6, e7, ck', g3, g4, wi, zi, zk, Int.toNat_natCast, Option.bind_some, ext_push, ext_refl, decide_true, decide_false]
          refine RunI.by (append_lit ty22 ty24 rfl (by decide) ho3 (ys := [.int .i64 (ys.getD k (0, 0)).1, .int .i64 (ys.getD k (0, 0)).2]) (m := 1) rfl rfl (n := l.length + 1) (by rw [cp_len]; simp; omega) (by omega) (by omega) hx3.size) ?_
          rintro v2 H5 ⟨q1, q2, _⟩
          simp only [go_sem, ↓reduceIte, Nat.reduceEqDiff, Nat.reduceLeDiff, Nat.reduceAdd, Nat.reduceMul, Nat.reduceSub, Nat.reduceBEq, Nat.reduceGT, Nat.reduceLT, Int.reduceLE, Int.reduceLT, Int.reduceNeg, reduceCtorEq, e0, e1, e5, e6, e7, wk]
          refine ⟨Hold.mk ⟨i + 1, k + 1, l ++ [ys.getD k (0, 0)], v2, by simp only [go_sem, ↓reduceIte, Nat.reduceEqDiff, Nat.reduceLeDiff, Nat.reduceAdd, Nat.reduceMul, Nat.reduceSub, Nat.reduceBEq, Nat.reduceGT, Nat.reduceLT, Int.reduceLE, Int.reduceLT, Int.reduceNeg, reduceCtorEq, e0], by simp only [go_sem, ↓reduceIte, Nat.reduceEqDiff, Nat.reduceLeDiff, Nat.reduceAdd, Nat.reduceMul, Nat.reduceSub, Nat.reduceBEq, Nat.reduceGT, Nat.reduceLT, Int.reduceLE, Int.reduceLT, Int.reduceNeg, reduceCtorEq, e1], by simp only [go_sem, ↓reduceIte, Nat.reduceEqDiff, Nat.reduceLeDiff, Nat.reduceAdd, Nat.reduceMul, Nat.reduceSub, Nat.reduceBEq, Nat.reduceGT, Nat.reduceLT, Int.reduceLE, Int.reduceLT, Int.reduceNeg, reduceCtorEq], by simp only [go_sem, ↓reduceIte, Nat.reduceEqDiff, Nat.reduceLeDiff, Nat.reduceAdd, Nat.reduceMul, Nat.reduceSub, Nat.reduceBEq, Nat.reduceGT, Nat.reduceLT, Int.reduceLE, Int.reduceLT, Int.reduceNeg, reduceCtorEq, e6], by simp only [go_sem, ↓reduceIte, Nat.reduceEqDiff, Nat.reduceLeDiff, Nat.reduceAdd, Nat.reduceMul, Nat.reduceSub, Nat.reduceBEq, Nat.reduceGT, Nat.reduceLT, Int.reduceLE, Int.reduceLT, Int.reduceNeg, reduceCtorEq, e7], by rw [cp_app]; exact q1, bi.stepC ux uy hi' hk' he, hx3.trans (q2.upto ho3 hx3.size)⟩, by omega⟩
        · have hd : decide (xs.getD i (0, 0) = ys.getD k (0, 0)) = false := decide_eq_false he
          simp only [go_sem, ↓reduceIte, Nat.reduceEqDiff, Nat.reduceLeDiff, Nat.reduceAdd, Nat.reduceMul, Nat.reduceSub, Nat.reduceBEq, Nat.reduceGT, Nat.reduceLT, Int.reduceLE, Int.reduceLT, Int.reduceNeg, reduceCtorEq, hd, e0, e1, e5, e6, e7, ck', g3, g4, zi, zk, Int.toNat_natCast, Option.bind_some, ext_push, ext_refl, decide_true, decide_false]
          refine RunI.by (append_lit ty22 ty24 rfl (by decide) ho3 (ys := [.int .i64 (ys.getD k (0, 0)).1, .int .i64 (ys.getD k (0, 0)).2]) (m := 1) rfl rfl (n := l.length + 1) (by rw [cp_len]; simp; omega) (by omega) (by omega) hx3.size) ?_
          rintro v2 H5 ⟨q1, q2, _⟩
          simp only [go_sem, ↓reduceIte, Nat.reduceEqDiff, Nat.reduceLeDiff, Nat.reduceAdd, Nat.reduceMul, Nat.reduceSub, Nat.reduceBEq, Nat.reduceGT, Nat.reduceLT, Int.reduceLE, Int.reduceLT, Int.reduceNeg, reduceCtorEq, e0, e1, e5, e6, e7, wk]
          refine ⟨Hold.mk ⟨i, k + 1, l ++ [ys.getD k (0, 0)], v2, by simp only [go_sem, ↓reduceIte, Nat.reduceEqDiff, Nat.reduceLeDiff, Nat.reduceAdd, Nat.reduceMul, Nat.reduceSub, Nat.reduceBEq, Nat.reduceGT, Nat.reduceLT, Int.reduceLE, Int.reduceLT, Int.reduceNeg, reduceCtorEq, e0], by simp only [go_sem, ↓reduceIte, Nat.reduceEqDiff, Nat.reduceLeDiff, Nat.reduceAdd, Nat.reduceMul, Nat.reduceSub, Nat.reduceBEq, Nat.reduceGT, Nat.reduceLT, Int.reduceLE, Int.reduceLT, Int.reduceNeg, reduceCtorEq, e1], by simp only [go_sem, ↓reduceIte, Nat.reduceEqDiff, Nat.reduceLeDiff, Nat.reduceAdd, Nat.reduceMul, Nat.reduceSub, Nat.reduceBEq, Nat.reduceGT, Nat.reduceLT, Int.reduceLE, Int.reduceLT, Int.reduceNeg, reduceCtorEq], by simp only [go_sem, ↓reduceIte, Nat.reduceEqDiff, Nat.reduceLeDiff, Nat.reduceAdd, Nat.reduceMul, Nat.reduceSub, Nat.reduceBEq, Nat.reduceGT, Nat.reduceLT, Int.reduceLE, Int.reduceLT, Int.reduceNeg, reduceCtorEq, e6], by simp only [go_sem, ↓reduceIte, Nat.reduceEqDiff, Nat.reduceLeDiff, Nat.reduceAdd, Nat.reduceMul, Nat.reduceSub, Nat.reduceBEq, Nat.reduceGT, Nat.reduceLT, Int.reduceLE, Int.reduceLT, Int.reduceNeg, reduceCtorEq, e7], by rw [cp_app]; exact q1, bi.stepB ux uy hk' (.inr (lt_ne hlt (Ne.symm he))), hx3.trans (q2.upto ho3 hx3.size)⟩, by omega⟩
    · have ck : (k : Int) = ys.length := by omega
      simp only [go_sem, ↓reduceIte, Nat.reduceEqDiff, Nat.reduceLeDiff, Nat.reduceAdd, Nat.reduceMul, Nat.reduceSub, Nat.reduceBEq, Nat.reduceGT, Nat.reduceLT, Int.reduceLE, Int.reduceLT, Int.reduceNeg, reduceCtorEq, c46_L0, e0, e1, e5, e6, e7, ci, ck, g1, g2, zi, zk, Int.toNat_natCast, Option.bind_some, ext_push, ext_refl, decide_true, decide_false]
      refine RunI.by (append_lit ty22 ty24 rfl (by decide) ho (ys := [.int .i64 (xs.getD i (0, 0)).1, .int .i64 (xs.getD i (0, 0)).2]) (m := 1) rfl rfl (n := l.length + 1) (by rw [cp_len]; simp; omega) (by omega) (by omega) hx.size) ?_
      rintro v2 H5 ⟨q1, q2, _⟩
      simp only [go_sem, ↓reduceIte, Nat.reduceEqDiff, Nat.reduceLeDiff, Nat.reduceAdd, Nat.reduceMul, Nat.reduceSub, Nat.reduceBEq, Nat.reduceGT, Nat.reduceLT, Int.reduceLE, Int.reduceLT, Int.reduceNeg, reduceCtorEq, e0, e1, e5, e6, e7, wi]
      refine ⟨Hold.mk ⟨i + 1, k, l ++ [xs.getD i (0, 0)], v2, by simp only [go_sem, ↓reduceIte, Nat.reduceEqDiff, Nat.reduceLeDiff, Nat.reduceAdd, Nat.reduceMul, Nat.reduceSub, Nat.reduceBEq, Nat.reduceGT, Nat.reduceLT, Int.reduceLE, Int.reduceLT, Int.reduceNeg, reduceCtorEq, e0], by simp only [go_sem, ↓reduceIte, Nat.reduceEqDiff, Nat.reduceLeDiff, Nat.reduceAdd, Nat.reduceMul, Nat.reduceSub, Nat.reduceBEq, Nat.reduceGT, Nat.reduceLT, Int.reduceLE, Int.reduceLT, Int.reduceNeg, reduceCtorEq, e1], by simp only [go_sem, ↓reduceIte, Nat.reduceEqDiff, Nat.reduceLeDiff, Nat.reduceAdd, Nat.reduceMul, Nat.reduceSub, Nat.reduceBEq, Nat.reduceGT, Nat.reduceLT, Int.reduceLE, Int.reduceLT, Int.reduceNeg, reduceCtorEq], by simp only [go_sem, ↓reduceIte, Nat.reduceEqDiff, Nat.reduceLeDiff, Nat.reduceAdd, Nat.reduceMul, Nat.reduceSub, Nat.reduceBEq, Nat.reduceGT, Nat.reduceLT, Int.reduceLE, Int.reduceLT, Int.reduceNeg, reduceCtorEq, e6], by simp only [go_sem, ↓reduceIte, Nat.reduceEqDiff, Nat.reduceLeDiff, Nat.reduceAdd, Nat.reduceMul, Nat.reduceSub, Nat.reduceBEq, Nat.reduceGT, Nat.reduceLT, Int.reduceLE, Int.reduceLT, Int.reduceNeg, reduceCtorEq, e7], by rw [cp_app]; exact q1, bi.stepA ux uy hi' (.inl (by omega)), hx.trans (q2.upto ho hx.size)⟩, by omega⟩
  · have ci : ¬ (i : Int) < xs.length := by omega
    by_cases hk' : k < ys.length
    · have ck : ¬ (k : Int) = ys.length := by omega
      have ck' : (k : Int) < ys.length := by omega
      obtain ⟨b', o', rfl⟩ := prs_at hu (by omega)
      obtain ⟨g3, g4⟩ := prs_get (prs_ext hu hx) hk'
      simp only [go_sem, ↓reduceIte, Nat.reduceEqDiff, Nat.reduceLeDiff, Nat.reduceAdd, Nat.reduceMul, Nat.reduceSub, Nat.reduceBEq, Nat.reduceGT, Nat.reduceLT, Int.reduceLE, Int.reduceLT, Int.reduceNeg, reduceCtorEq, c46_L0, e0, e1, e5, e6, e7, ci, ck, ck', g3, g4, zi, zk, Int.toNat_natCast, Option.bind_some, ext_push, ext_refl, decide_true, decide_false]
      refine RunI.by (append_lit ty22 ty24 rfl (by decide) ho (ys := [.int .i64 (ys.getD k (0, 0)).1, .int .i64 (ys.getD k (0, 0)).2]) (m := 1) rfl rfl (n := l.length + 1) (by rw [cp_len]; simp; omega) (by omega) (by omega) hx.size) ?_
      rintro v2 H5 ⟨q1, q2, _⟩
      simp only [go_sem, ↓reduceIte, Nat.reduceEqDiff, Nat.reduceLeDiff, Nat.reduceAdd, Nat.reduceMul, Nat.reduceSub, Nat.reduceBEq, Nat.reduceGT, Nat.reduceLT, Int.reduceLE, Int.reduceLT, Int.reduceNeg, reduceCtorEq, e0, e1, e5, e6, e7, wk]
      refine ⟨Hold.mk ⟨i, k + 1, l ++ [ys.getD k (0, 0)], v2, by simp only [go_sem, ↓reduceIte, Nat.reduceEqDiff, Nat.reduceLeDiff, Nat.reduceAdd, Nat.reduceMul, Nat.reduceSub, Nat.reduceBEq, Nat.reduceGT, Nat.reduceLT, Int.reduceLE, Int.reduceLT, Int.reduceNeg, reduceCtorEq, e0], by simp only [go_sem, ↓reduceIte, Nat.reduceEqDiff, Nat.reduceLeDiff, Nat.reduceAdd, Nat.reduceMul, Nat.reduceSub, Nat.reduceBEq, Nat.reduceGT, Nat.reduceLT, Int.reduceLE, Int.reduceLT, Int.reduceNeg, reduceCtorEq, e1], by simp only [go_sem, ↓reduceIte, Nat.reduceEqDiff, Nat.reduceLeDiff, Nat.reduceAdd, Nat.reduceMul, Nat.reduceSub, Nat.reduceBEq, Nat.reduceGT, Nat.reduceLT, Int.reduceLE, Int.reduceLT, Int.reduceNeg, reduceCtorEq], by simp only [go_sem, ↓reduceIte, Nat.reduceEqDiff, Nat.reduceLeDiff, Nat.reduceAdd, Nat.reduceMul, Nat.reduceSub, Nat.reduceBEq, Nat.reduceGT, Nat.reduceLT, Int.reduceLE, Int.reduceLT, Int.reduceNeg, reduceCtorEq, e6], by simp only [go_sem, ↓reduceIte, Nat.reduceEqDiff, Nat.reduceLeDiff, Nat.reduceAdd, Nat.reduceMul, Nat.reduceSub, Nat.reduceBEq, Nat.reduceGT, Nat.reduceLT, Int.reduceLE, Int.reduceLT, Int.reduceNeg, reduceCtorEq, e7], by rw [cp_app]; exact q1, bi.stepB ux uy hk' (.inl (by omega)), hx.trans (q2.upto ho hx.size)⟩, by omega⟩
    · have ck : ¬ (k : Int) < ys.length := by omega
      simp only [go_sem, ↓reduceIte, Nat.reduceEqDiff, Nat.reduceLeDiff, Nat.reduceAdd, Nat.reduceMul, Nat.reduceSub, Nat.reduceBEq, Nat.reduceGT, Nat.reduceLT, Int.reduceLE, Int.reduceLT, Int.reduceNeg, reduceCtorEq, c46_L0, e0, e1, e5, e6, e7, ci, ck]
      have h1 : i = xs.length := by omega
      have h2 : k = ys.length := by omega
      subst h1
      subst h2
      exact ⟨⟨l, ho, bi.done⟩, hx⟩
-- END BOTH
end Go.Proofs.Ytcgejfmbhpmjfaa
