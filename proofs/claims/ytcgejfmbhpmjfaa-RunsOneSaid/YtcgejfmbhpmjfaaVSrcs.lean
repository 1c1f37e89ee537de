/- The laws' helper sources. -/
import Derived.Test.YtcgejfmbhpmjfaaVSmall
import Derived.Test.YtcgejfmbhpmjfaaVRsort
set_option linter.unusedSimpArgs false
set_option linter.unusedVariables false
set_option maxRecDepth 20000
namespace Go.Proofs.Ytcgejfmbhpmjfaa
open Go Go.V
-- 34: pith/pithlaw11.sources
-- 16: pith/runs.Sort
-- 3: int
-- 24: pith/api.Pair
-- 22: []api.Pair
-- 60: [][]api.Pair
/-- A slice of slices of arcs. -/
def PrsL (H : Heap) (v : Value) (ls : List (List Pr)) : Prop := ∃ vs, Sl H 22 1 v vs ∧ All2 (fun u l => Prs H u l) vs ls
section
variable {H H' : Heap} {v : Value} {ls : List (List Pr)} {a : Option Addr} {len cap : Nat}
theorem PrsL.form (h : PrsL H v ls) : ∃ a cap, v = .slice a ls.length cap := by
  obtain ⟨vs, hs, ha⟩ := h
  obtain ⟨a, len, cap, rfl⟩ := hs.form
  have h1 := hs.length
  have h2 := ha.length
  exact ⟨a, cap, by rw [← h2, h1, Nat.mul_one]⟩
theorem PrsL.length (h : PrsL H (.slice a len cap) ls) : ls.length = len := by
  obtain ⟨a', cap', he⟩ := h.form; cases he; rfl
theorem PrsL.at (h : PrsL H (.slice a len cap) ls) {i : Nat} (hi : i < ls.length) : ∃ b o, a = some ⟨b, o, none⟩ := by
  have := h.length
  obtain ⟨vs, hs, ha⟩ := h
  exact hs.at (by omega)
theorem PrsL.get {b o : Nat} (h : PrsL H (.slice (some ⟨b, o, none⟩) len cap) ls) {i : Nat} (hi : i < ls.length) : ∃ a' cap', hget H b (o + i) = some (.slice a' (ls.getD i []).length cap') ∧ Prs H (.slice a' (ls.getD i []).length cap') (ls.getD i []) := by
  have hl := h.length
  obtain ⟨vs, hs, ha⟩ := h
  obtain ⟨u, hu, hr⟩ := ha.get (i := i) (b := ls[i]) (List.getElem?_eq_getElem hi)
  have e : ls.getD i [] = ls[i] := by rw [List.getD_eq_getElem?_getD, List.getElem?_eq_getElem hi]; rfl
  rw [← e] at hr
  obtain ⟨a', cap', rfl⟩ := prs_form hr
  exact ⟨a', cap', by rw [hs.get (by omega)]; exact hu, hr⟩
theorem PrsL.ext (h : PrsL H v ls) (hx : Ext H H') : PrsL H' v ls := by
  obtain ⟨vs, hs, ha⟩ := h
  exact ⟨vs, hs.ext hx, ha.mono fun _ _ h => prs_ext h hx⟩
end
/-- A row of rows, all its own. -/
def Own2All (H : Heap) (B : Nat) (v : Value) (ls : List (List Pr)) : Prop := ∃ vs, Own H B 22 1 v vs ∧ All2 (fun u l => Own2 H B 24 2 u (cp l)) vs ls
theorem Own2All.prsl {H : Heap} {B : Nat} {v : Value} {ls : List (List Pr)} (h : Own2All H B v ls) : PrsL H v ls := by
  obtain ⟨vs, h1, h2⟩ := h
  exact ⟨vs, h1.sl, h2.mono fun _ _ h => Own2.sl h⟩
theorem Own2All.ext {H H' : Heap} {B : Nat} {v : Value} {ls : List (List Pr)} (h : Own2All H B v ls) (hx : Ext H H') : Own2All H' B v ls := by
  obtain ⟨vs, h1, h2⟩ := h
  exact ⟨vs, h1.ext hx, h2.mono fun _ _ h => Own2.ext h hx⟩
theorem Own2.byTag {H H' : Heap} {B B' : Nat} {e e' : TypeId} {sz sz' : Nat} {v w : Value} {vs ws : List Value} (h : Own2 H B e sz v vs) (k : Own H B' e' sz' w ws) (hb : But (blk w) H H') (hne : e ≠ e') : Own2 H' B e sz v vs :=
  Own2.keep h fun g hg => by
    obtain ⟨_, h2, c, h3⟩ := Own2.blk h hg
    refine hb.get g h2 fun he => ?_
    obtain ⟨_, _, d, k3⟩ := k.blk he.symm
    rw [h3] at k3
    cases k3
    exact hne rfl
theorem append_all2 {H : Heap} {B : Nat} {v u : Value} {ls : List (List Pr)} {l : List Pr} (ho : Own2All H B v ls) (hu : Own2 H B 24 2 u (cp l)) (hB : B ≤ H.size) (hl : ls.length ≤ 5864062010000) :
    RunS Try.prog (sAppend #[60, 60] #[v, .slice (some ⟨H.size, 0, none⟩) 1 1]) (H.push (.cells #[u] 22)) (fun v2 H2 => Own2All H2 B v2 (ls ++ [l]) ∧ Upto B H H2) := by
  obtain ⟨vs, h1, h2⟩ := ho
  have e2 := h2.length
  have h1c : [u].all Value.oneCell' = true := by
    rcases hu with ⟨rfl, _⟩ | ⟨g, o, len, cap, c, rfl, _⟩ <;> rfl
  refine (append_lit ty60 ty22 rfl (by decide) h1 (ys := [u]) (m := 1) rfl h1c (n := ls.length + 1) (by simp; omega) (by show (ls.length + 1) * 24 ≤ _; omega) (by omega) hB).mono ?_
  rintro v2 H2 ⟨q1, q2, _⟩
  refine ⟨⟨vs ++ [u], q1, ?_⟩, q2.upto h1 hB⟩
  have h3 : All2 (fun u l => Own2 H2 B 24 2 u (cp l)) vs ls := h2.mono fun u l h => Own2.byTag h h1 q2.but (by decide)
  have h4 : Own2 H2 B 24 2 u (cp l) := Own2.byTag hu h1 q2.but (by decide)
  exact All2.snoc (R := fun u l => Own2 H2 B 24 2 u (cp l)) h4 h3
/-- The lists that are not too long, sorted. -/
def srcs (pss : List (List Pr)) : List (List Pr) := ((pss.take 64).filter fun l => decide (l.length ≤ 3000)).map sortP
def srcsN (pss : List (List Pr)) (n : Nat) : List (List Pr) := ((pss.take n).filter fun l => decide (l.length ≤ 3000)).map sortP
theorem srcsN_succ {pss : List (List Pr)} {n : Nat} (h : n < pss.length) : srcsN pss (n + 1) = srcsN pss n ++ (if (pss.getD n []).length ≤ 3000 then [sortP (pss.getD n [])] else []) := by
  unfold srcsN
  rw [take_succ_getD h [], List.filter_append, List.map_append]
  congr 1
  by_cases hl : (pss.getD n []).length ≤ 3000
  · rw [if_pos hl, List.filter_cons, if_pos (decide_eq_true hl)]; rfl
  · rw [if_neg hl, List.filter_cons, if_neg (by simpa using hl)]; rfl
theorem srcsN_len (pss : List (List Pr)) (n : Nat) : (srcsN pss n).length ≤ n := by
  unfold srcsN
  rw [List.length_map]
  exact Nat.le_trans (List.length_filter_le _ _) (by rw [List.length_take]; omega)
theorem srcs_all {pss : List (List Pr)} {n : Nat} (h : n = 64 ∨ pss.length ≤ n ∧ n ≤ 64) : srcsN pss n = srcs pss := by
  unfold srcsN srcs
  rcases h with h | h
  · rw [h]
  · rw [List.take_of_length_le h.1, List.take_of_length_le (by omega)]
theorem srcs_prop {pss : List (List Pr)} : (srcs pss).length ≤ 64 ∧ ∀ l ∈ srcs pss, Up l ∧ l.length ≤ 3000 := by
  refine ⟨srcsN_len pss 64, fun l hl => ?_⟩
  unfold srcs at hl
  obtain ⟨q, hq, rfl⟩ := List.mem_map.1 hl
  rw [List.mem_filter, decide_eq_true_eq] at hq
  exact ⟨(sortP_is q).1, Nat.le_trans (sortP_len q) hq.2⟩
set_option maxHeartbeats 1600000 in
theorem F34 (v : Value) (pss : List (List Pr)) (H : Heap) (hv : PrsL H v pss) :
    Fun Try.prog 34 #[v] H (fun r H' => PrsL H' r (srcs pss) ∧ Ext H H') := by
  obtain ⟨a, c, rfl⟩ := hv.form
  refine fun_of mixed (args := [_]) Try.func34 Try.ntmps34 b34 r34 rfl ?_
  simp only [go_sem, ↓reduceIte, Nat.reduceEqDiff, Nat.reduceLeDiff, Nat.reduceAdd, Nat.reduceMul, Nat.reduceSub, Nat.reduceBEq, Nat.reduceGT, Nat.reduceLT, Int.reduceLE, Int.reduceLT, Int.reduceNeg, reduceCtorEq]
  refine LoopI.by mixed (fun ρ H' => ∃ (i : Nat) (w : Value), ρ 0 = .slice a pss.length c ∧ ρ 3 = w ∧ ρ 4 = .int .i64 i ∧ i ≤ pss.length ∧ i ≤ 64 ∧ Own2All H' H.size w (srcsN pss i) ∧ Ext H H') (fun ρ _ => pss.length - (iof (ρ 4)).toNat) ?_ ?_
  · exact ⟨0, _, by simp only [go_sem, ↓reduceIte, Nat.reduceEqDiff, Nat.reduceLeDiff, Nat.reduceAdd, Nat.reduceMul, Nat.reduceSub, Nat.reduceBEq, Nat.reduceGT, Nat.reduceLT, Int.reduceLE, Int.reduceLT, Int.reduceNeg, reduceCtorEq], rfl, by simp only [go_sem, ↓reduceIte, Nat.reduceEqDiff, Nat.reduceLeDiff, Nat.reduceAdd, Nat.reduceMul, Nat.reduceSub, Nat.reduceBEq, Nat.reduceGT, Nat.reduceLT, Int.reduceLE, Int.reduceLT, Int.reduceNeg, reduceCtorEq]; rfl, by omega, by omega, by simp only [go_sem, ↓reduceIte, Nat.reduceEqDiff, Nat.reduceLeDiff, Nat.reduceAdd, Nat.reduceMul, Nat.reduceSub, Nat.reduceBEq, Nat.reduceGT, Nat.reduceLT, Int.reduceLE, Int.reduceLT, Int.reduceNeg, reduceCtorEq]; exact ⟨[], Own.nil, trivial⟩, Upto.refl _ _⟩
  rintro ρ H1 ⟨i, w, e0, e3, e4, hi, hi2, ho, hx⟩
  by_cases c1 : i < pss.length
  · have z1 : (i : Int) < pss.length := by omega
    by_cases c2 : i < 64
    · have z2 : (i : Int) < 64 := by omega
      have z0 : (0 : Int) ≤ i := by omega
      obtain ⟨b, o, rfl⟩ := hv.at (by omega)
      obtain ⟨a', cap', g1, hp⟩ := (hv.ext hx).get c1
      have w1 : IntKind.i64.wrap ((i : Int) + 1) = ((i + 1 : Nat) : Int) := by rw [w64_id (by omega) (by omega)]; omega
      by_cases c3 : (pss.getD i []).length ≤ 3000
      · have z3 : ((pss.getD i []).length : Int) ≤ 3000 := by omega
        simp only [go_sem, ↓reduceIte, Nat.reduceEqDiff, Nat.reduceLeDiff, Nat.reduceAdd, Nat.reduceMul, Nat.reduceSub, Nat.reduceBEq, Nat.reduceGT, Nat.reduceLT, Int.reduceLE, Int.reduceLT, Int.reduceNeg, reduceCtorEq, c34_L0, e0, e3, e4, z0, z1, z2, z3, g1, Int.toNat_natCast, Option.bind_some]
        refine FunI.by (F16 _ (pss.getD i []) _ hp (by omega)) ?_
        rintro v2 H2 ⟨o2, y⟩
        obtain ⟨a2, cap2, rfl⟩ := prs_form (Own2.sl o2)
        have hs2 := Nat.le_trans hx.size y.size
        simp only [go_sem, ↓reduceIte, Nat.reduceEqDiff, Nat.reduceLeDiff, Nat.reduceAdd, Nat.reduceMul, Nat.reduceSub, Nat.reduceBEq, Nat.reduceGT, Nat.reduceLT, Int.reduceLE, Int.reduceLT, Int.reduceNeg, reduceCtorEq]
        refine RunI.by (append_all2 (ho.ext y) (Own2.mono o2 hx.size) hs2 (by have := srcsN_len pss i; omega)) ?_
        rintro v3 H3 ⟨o3, y3⟩
        simp only [go_sem, ↓reduceIte, Nat.reduceEqDiff, Nat.reduceLeDiff, Nat.reduceAdd, Nat.reduceMul, Nat.reduceSub, Nat.reduceBEq, Nat.reduceGT, Nat.reduceLT, Int.reduceLE, Int.reduceLT, Int.reduceNeg, reduceCtorEq, e4, w1]
        refine ⟨Hold.mk ⟨i + 1, v3, by simp only [go_sem, ↓reduceIte, Nat.reduceEqDiff, Nat.reduceLeDiff, Nat.reduceAdd, Nat.reduceMul, Nat.reduceSub, Nat.reduceBEq, Nat.reduceGT, Nat.reduceLT, Int.reduceLE, Int.reduceLT, Int.reduceNeg, reduceCtorEq, e0], by simp only [go_sem, ↓reduceIte, Nat.reduceEqDiff, Nat.reduceLeDiff, Nat.reduceAdd, Nat.reduceMul, Nat.reduceSub, Nat.reduceBEq, Nat.reduceGT, Nat.reduceLT, Int.reduceLE, Int.reduceLT, Int.reduceNeg, reduceCtorEq], by simp only [go_sem, ↓reduceIte, Nat.reduceEqDiff, Nat.reduceLeDiff, Nat.reduceAdd, Nat.reduceMul, Nat.reduceSub, Nat.reduceBEq, Nat.reduceGT, Nat.reduceLT, Int.reduceLE, Int.reduceLT, Int.reduceNeg, reduceCtorEq], by omega, by omega, ?_, (hx.trans (y.mono hx.size)).trans y3⟩, by omega⟩
        rw [srcsN_succ c1, if_pos c3]
        exact o3
      · have z3 : ¬ ((pss.getD i []).length : Int) ≤ 3000 := by omega
        simp only [go_sem, ↓reduceIte, Nat.reduceEqDiff, Nat.reduceLeDiff, Nat.reduceAdd, Nat.reduceMul, Nat.reduceSub, Nat.reduceBEq, Nat.reduceGT, Nat.reduceLT, Int.reduceLE, Int.reduceLT, Int.reduceNeg, reduceCtorEq, c34_L0, e0, e3, e4, z0, z1, z2, z3, g1, w1, Int.toNat_natCast, Option.bind_some]
        refine ⟨Hold.mk ⟨i + 1, w, by simp only [go_sem, ↓reduceIte, Nat.reduceEqDiff, Nat.reduceLeDiff, Nat.reduceAdd, Nat.reduceMul, Nat.reduceSub, Nat.reduceBEq, Nat.reduceGT, Nat.reduceLT, Int.reduceLE, Int.reduceLT, Int.reduceNeg, reduceCtorEq, e0], by simp only [go_sem, ↓reduceIte, Nat.reduceEqDiff, Nat.reduceLeDiff, Nat.reduceAdd, Nat.reduceMul, Nat.reduceSub, Nat.reduceBEq, Nat.reduceGT, Nat.reduceLT, Int.reduceLE, Int.reduceLT, Int.reduceNeg, reduceCtorEq, e3], by simp only [go_sem, ↓reduceIte, Nat.reduceEqDiff, Nat.reduceLeDiff, Nat.reduceAdd, Nat.reduceMul, Nat.reduceSub, Nat.reduceBEq, Nat.reduceGT, Nat.reduceLT, Int.reduceLE, Int.reduceLT, Int.reduceNeg, reduceCtorEq], by omega, by omega, ?_, hx⟩, by omega⟩
        rw [srcsN_succ c1, if_neg c3, List.append_nil]
        exact ho
    · have z2 : ¬ (i : Int) < 64 := by omega
      simp only [go_sem, ↓reduceIte, Nat.reduceEqDiff, Nat.reduceLeDiff, Nat.reduceAdd, Nat.reduceMul, Nat.reduceSub, Nat.reduceBEq, Nat.reduceGT, Nat.reduceLT, Int.reduceLE, Int.reduceLT, Int.reduceNeg, reduceCtorEq, c34_L0, e0, e3, e4, z1, z2]
      rw [← srcs_all (n := i) (.inl (by omega))]
      exact ⟨ho.prsl, hx⟩
  · have z1 : ¬ (i : Int) < pss.length := by omega
    simp only [go_sem, ↓reduceIte, Nat.reduceEqDiff, Nat.reduceLeDiff, Nat.reduceAdd, Nat.reduceMul, Nat.reduceSub, Nat.reduceBEq, Nat.reduceGT, Nat.reduceLT, Int.reduceLE, Int.reduceLT, Int.reduceNeg, reduceCtorEq, c34_L0, e0, e3, e4, z1]
    rw [← srcs_all (n := i) (.inr ⟨by omega, by omega⟩)]
    exact ⟨ho.prsl, hx⟩
end Go.Proofs.Ytcgejfmbhpmjfaa
