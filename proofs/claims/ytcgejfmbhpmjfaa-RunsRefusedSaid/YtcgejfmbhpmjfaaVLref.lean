/- The law RunsRefused, over heaps. -/
import Derived.Test.YtcgejfmbhpmjfaaVLenc
import Derived.Test.YtcgejfmbhpmjfaaVSrcs
import Derived.Test.YtcgejfmbhpmjfaaVTold
set_option linter.unusedSimpArgs false
set_option linter.unusedVariables false
set_option maxRecDepth 20000
namespace Go.Proofs.Ytcgejfmbhpmjfaa
open Go Go.V
-- 10: pith/pithlaw11.RunsRefused
-- 11: pith/pithlaw11.first
-- 34: pith/pithlaw11.sources
-- 36: pith/pithlaw11.told
-- 23: pith/pithlaw11.num
-- 18: pith/pithref.Pairs
-- 15: pith/pithref.SamePairs
-- 26: pith/runs.New
-- 35: (*pith/runs.Merger).Give
-- 37: (*pith/runs.Merger).Wants
-- 38: (*pith/runs.Merger).Left
-- 24: pith/api.Pair
-- 22: []api.Pair
theorem prs_nil {H : Heap} : Prs H (.slice none 0 0) [] := Sl.nil
theorem Told.len {most : Nat} {ss a : List Src} {out x : List Pr} (h : Told most ss out a x) (ho : out.length ≤ most + 1) : x.length ≤ most + 1 := by
  induction h with
  | stop _ => exact ho
  | full _ _ => exact ho
  | more _ hm _ ih => exact ih (by simp; omega)
theorem give_ok {ss : List Src} {k : Nat} {l : List Pr} {b : Bool} (hk : k < ss.length) (he : (sg ss k).ended = false) (hf : fits (sg ss k) l = true) : giveS ss k l b = (ss.set k (gave (sg ss k) l b), 0) := by
  unfold giveS
  rw [Int.toNat_natCast, if_neg (by rintro (h | h | h) <;> first | omega | (rw [he] at h; cases h)), if_neg (by rw [hf]; simp)]
theorem give_end {ss : List Src} {k : Nat} {l : List Pr} {b : Bool} (he : (sg ss k).ended = true) : giveS ss k l b = (ss, 112) := by
  unfold giveS
  rw [Int.toNat_natCast, if_pos (.inr (.inr he))]
theorem give_rise {ss : List Src} {k : Nat} {l : List Pr} {b : Bool} (hk : k < ss.length) (he : (sg ss k).ended = false) (hf : fits (sg ss k) l = false) : giveS ss k l b = (ss, 111) := by
  unfold giveS
  rw [Int.toNat_natCast, if_neg (by rintro (h | h | h) <;> first | omega | (rw [he] at h; cases h)), if_pos hf]
theorem give_out {ss : List Src} {l : List Pr} {b : Bool} : giveS ss (ss.length : Int) l b = (ss, 112) := by
  unfold giveS
  rw [if_pos (.inr (.inl (Int.le_refl _)))]
theorem give_neg {ss : List Src} {l : List Pr} {b : Bool} : giveS ss (-1) l b = (ss, 112) := by
  unfold giveS
  rw [if_pos (.inl (by decide))]
theorem rise_pp (p : Pr) : riseP [p, p] = false := riseP_no (i := 0) (by simp) (by simpa using lt_irrefl' p)
/-- Behind k lists: the even ones are ended. -/
def RefI (qs : List (List Pr)) (cur : List Src) (k : Nat) : Prop :=
  cur.length = qs.length ∧ ∀ j, j < qs.length → sg cur j = if j < k then gave default (qs.getD j []) (decide (j % 2 = 0)) else default
theorem RefI.give {qs : List (List Pr)} {cur : List Src} {k : Nat} (h : RefI qs cur k) (hk : k < qs.length) (hu : Up (qs.getD k [])) :
    giveS cur k (qs.getD k []) (decide (k % 2 = 0)) = (cur.set k (gave default (qs.getD k []) (decide (k % 2 = 0))), 0) ∧ RefI qs (cur.set k (gave default (qs.getD k []) (decide (k % 2 = 0)))) (k + 1) := by
  have hd : sg cur k = default := by rw [h.2 k hk, if_neg (by omega)]
  have hkc : k < cur.length := by rw [h.1]; exact hk
  refine ⟨?_, by rw [List.length_set]; exact h.1, fun j hj => ?_⟩
  · rw [give_ok hkc (by rw [hd]; rfl) (by rw [hd]; unfold fits; rw [(rise_up _).2 hu]; simp [default]), hd]
  · rw [sg_set hkc]
    by_cases hjk : j = k
    · subst hjk
      rw [if_pos rfl, if_pos (by omega)]
    · rw [if_neg hjk, h.2 j hj]
      by_cases hlt : j < k
      · rw [if_pos hlt, if_pos (by omega)]
      · rw [if_neg hlt, if_neg (by omega)]
theorem RefI.len {qs : List (List Pr)} {cur : List Src} {k : Nat} (h : RefI qs cur k) (hl : ∀ l ∈ qs, l.length ≤ 3000) : ∀ j, j < cur.length → (sg cur j).l.length ≤ 3000 := by
  intro j hj
  rw [h.1] at hj
  rw [h.2 j hj]
  split
  · unfold gave
    simp only [default, List.nil_append]
    exact hl _ (by rw [List.getD_eq_getElem?_getD, List.getElem?_eq_getElem hj]; exact List.getElem_mem hj)
  · exact Nat.zero_le _
/-- The odd ones from k on are not ended. -/
def RefJ (n : Nat) (cur : List Src) (k : Nat) : Prop :=
  cur.length = n ∧ (∀ j, j < n → (sg cur j).l.length ≤ 3000) ∧ ∀ j, j < n → j % 2 = 1 → k ≤ j → (sg cur j).ended = false
theorem RefJ.give {n : Nat} {cur : List Src} {k : Nat} (h : RefJ n cur k) (hk : k < n) (h2 : k % 2 = 1) : giveS cur k [] true = (cur.set k (gave (sg cur k) [] true), 0) ∧ RefJ n (cur.set k (gave (sg cur k) [] true)) (k + 2) := by
  have hkc : k < cur.length := by rw [h.1]; exact hk
  refine ⟨give_ok hkc (h.2.2 k hk h2 (Nat.le_refl _)) (by unfold fits; simp [riseP]), by rw [List.length_set]; exact h.1, fun j hj => ?_, fun j hj h3 h4 => ?_⟩
  · rw [sg_set hkc]
    by_cases hjk : j = k
    · rw [if_pos hjk, gave_nil]; exact h.2.1 k hk
    · rw [if_neg hjk]; exact h.2.1 j hj
  · rw [sg_set hkc, if_neg (by omega)]
    exact h.2.2 j hj h3 (by omega)
theorem RefI.toJ {qs : List (List Pr)} {cur : List Src} (h : RefI qs cur qs.length) (hl : ∀ l ∈ qs, l.length ≤ 3000) : RefJ qs.length cur 1 := by
  refine ⟨h.1, fun j hj => h.len hl j (by rw [h.1]; exact hj), fun j hj h2 _ => ?_⟩
  rw [h.2 j hj, if_pos hj]
  show decide (j % 2 = 0) = false
  simp; omega
set_option maxHeartbeats 600000 in
theorem F10 (v0 : Value) (pss : List (List Pr)) (i : Int) (p : Pr) (H : Heap) (hv0 : PrsL H v0 pss) :
    Fun Try.prog 10 #[v0, .int .i64 i, pv p] H (fun r H' => r = .bool true ∧ Ext H H') := by
  obtain ⟨a0, c0, rfl⟩ := hv0.form
  refine fun_of mixed (args := [_, _, _]) Try.func10 Try.ntmps10 b10 r10 rfl ?_
  simp only [go_sem, ↓reduceIte, Nat.reduceEqDiff, Nat.reduceLeDiff, Nat.reduceAdd, Nat.reduceMul, Nat.reduceSub, Nat.reduceBEq, Nat.reduceGT, Nat.reduceLT, Int.reduceLE, Int.reduceLT, Int.reduceNeg, reduceCtorEq, pv]
  obtain ⟨G0, hG0⟩ : ∃ G, G = Array.push H (Obj.cells #[Value.int .i64 p.1, Value.int .i64 p.2] 24) := ⟨_, rfl⟩
  have x0 : Ext H G0 := by rw [hG0]; exact Ext.push _
  have ca : G0[H.size]? = some (Obj.cells #[Value.int .i64 p.1, Value.int .i64 p.2] 24) := by rw [hG0]; exact push_new
  have la : H.size < G0.size := by rw [hG0]; simp
  rw [← hG0]
  clear hG0
  refine FunI.by (F11 _) ?_
  rintro _ G1 ⟨rfl, y⟩
  replace x0 := step x0 y (Nat.le_refl _)
  replace ca := (y.get _ la).trans ca
  replace la := Nat.lt_of_lt_of_le la y.size
  clear y
  simp only [go_sem, ↓reduceIte, Nat.reduceEqDiff, Nat.reduceLeDiff, Nat.reduceAdd, Nat.reduceMul, Nat.reduceSub, Nat.reduceBEq, Nat.reduceGT, Nat.reduceLT, Int.reduceLE, Int.reduceLT, Int.reduceNeg, reduceCtorEq]
  refine FunI.by (F34 _ pss _ (hv0.ext x0)) ?_
  rintro v1 G2 ⟨os, y⟩
  replace x0 := step x0 y (Nat.le_refl _)
  replace ca := (y.get _ la).trans ca
  replace la := Nat.lt_of_lt_of_le la y.size
  clear y
  obtain ⟨qs, hqs⟩ : ∃ qs, qs = srcs pss := ⟨_, rfl⟩
  obtain ⟨hq64, hqp⟩ := srcs_prop (pss := pss)
  rw [← hqs] at os hq64 hqp
  obtain ⟨a1, c1, rfl⟩ := os.form
  simp only [go_sem, ↓reduceIte, Nat.reduceEqDiff, Nat.reduceLeDiff, Nat.reduceAdd, Nat.reduceMul, Nat.reduceSub, Nat.reduceBEq, Nat.reduceGT, Nat.reduceLT, Int.reduceLE, Int.reduceLT, Int.reduceNeg, reduceCtorEq]
  refine FunI.by (mg_new qs.length _ hq64) ?_
  rintro _ H9 ⟨F1, M1, rfl, mg1, f1, xg⟩
  simp only [go_sem, ↓reduceIte, Nat.reduceEqDiff, Nat.reduceLeDiff, Nat.reduceAdd, Nat.reduceMul, Nat.reduceSub, Nat.reduceBEq, Nat.reduceGT, Nat.reduceLT, Int.reduceLE, Int.reduceLT, Int.reduceNeg, reduceCtorEq]
  refine FunI.by (mg_new qs.length _ hq64) ?_
  rintro _ H10 ⟨F2, M2, rfl, mg2, f2, y⟩
  have D : ∀ b, F2 b → ¬ F1 b := fun b h2 h1 => by
    have := f2 b h2
    have := mg1.lt h1
    omega
  replace f2 : ∀ b, F2 b → G2.size ≤ b := fun b hb => Nat.le_trans xg.size (f2 b hb)
  replace xg := xg.trans (y.mono xg.size)
  replace mg1 := mg1.ext y
  clear y
  simp only [go_sem, ↓reduceIte, Nat.reduceEqDiff, Nat.reduceLeDiff, Nat.reduceAdd, Nat.reduceMul, Nat.reduceSub, Nat.reduceBEq, Nat.reduceGT, Nat.reduceLT, Int.reduceLE, Int.reduceLT, Int.reduceNeg, reduceCtorEq]
  have hlen : ∀ l ∈ qs, l.length ≤ 3000 := fun l hl => (hqp l hl).2
  have hqk : ∀ k, k < qs.length → Up (qs.getD k []) ∧ (qs.getD k []).length ≤ 3000 := fun k hk => hqp _ (by rw [List.getD_eq_getElem?_getD, List.getElem?_eq_getElem hk]; exact List.getElem_mem hk)
  refine LoopI.by mixed (fun ρ H' => ∃ (k : Nat) (cur : List Src) (F1 F2 : Nat → Prop), ρ 5 = .pointer (some ⟨H.size, 0, none⟩) ∧ ρ 8 = .slice a1 qs.length c1 ∧ ρ 9 = .pointer (some ⟨M1, 0, none⟩) ∧ ρ 10 = .pointer (some ⟨M2, 0, none⟩) ∧ ρ 11 = .int .i64 k ∧ k ≤ qs.length ∧ RefI qs cur k ∧ Mg (.pointer (some ⟨M1, 0, none⟩)) cur F1 H' ∧ Mg (.pointer (some ⟨M2, 0, none⟩)) cur F2 H' ∧
    (∀ b, F2 b → ¬ F1 b) ∧ (∀ b, F1 b → G2.size ≤ b) ∧ (∀ b, F2 b → G2.size ≤ b) ∧ Ext G2 H') (fun ρ _ => qs.length - (iof (ρ 11)).toNat) ?_ ?_
  · exact ⟨0, List.replicate qs.length default, F1, F2, by simp only [go_sem, ↓reduceIte, Nat.reduceEqDiff, Nat.reduceLeDiff, Nat.reduceAdd, Nat.reduceMul, Nat.reduceSub, Nat.reduceBEq, Nat.reduceGT, Nat.reduceLT, Int.reduceLE, Int.reduceLT, Int.reduceNeg, reduceCtorEq], by simp only [go_sem, ↓reduceIte, Nat.reduceEqDiff, Nat.reduceLeDiff, Nat.reduceAdd, Nat.reduceMul, Nat.reduceSub, Nat.reduceBEq, Nat.reduceGT, Nat.reduceLT, Int.reduceLE, Int.reduceLT, Int.reduceNeg, reduceCtorEq], by simp only [go_sem, ↓reduceIte, Nat.reduceEqDiff, Nat.reduceLeDiff, Nat.reduceAdd, Nat.reduceMul, Nat.reduceSub, Nat.reduceBEq, Nat.reduceGT, Nat.reduceLT, Int.reduceLE, Int.reduceLT, Int.reduceNeg, reduceCtorEq], by simp only [go_sem, ↓reduceIte, Nat.reduceEqDiff, Nat.reduceLeDiff, Nat.reduceAdd, Nat.reduceMul, Nat.reduceSub, Nat.reduceBEq, Nat.reduceGT, Nat.reduceLT, Int.reduceLE, Int.reduceLT, Int.reduceNeg, reduceCtorEq], by simp only [go_sem, ↓reduceIte, Nat.reduceEqDiff, Nat.reduceLeDiff, Nat.reduceAdd, Nat.reduceMul, Nat.reduceSub, Nat.reduceBEq, Nat.reduceGT, Nat.reduceLT, Int.reduceLE, Int.reduceLT, Int.reduceNeg, reduceCtorEq]; rfl, by omega, ⟨by simp, fun j hj => by rw [if_neg (by omega)]; unfold sg; rw [List.getD_eq_getElem?_getD, List.getElem?_replicate, if_pos hj]; rfl⟩, mg1, mg2, D, f1, f2, xg⟩
  clear mg1 mg2 D f1 f2 xg F1 F2
  rintro ρ H10 ⟨k, cur, F1, F2, e5, e8, e9, e10, e11, hk, hI, mg1, mg2, D, f1, f2, xg⟩
  by_cases hkl : k < qs.length
  · have i1 : (k : Int) < qs.length := by omega
    have z0 : (0 : Int) ≤ k := by omega
    have w2 : IntKind.i64.wrap (Int.tmod (k : Int) 2) = ((k % 2 : Nat) : Int) := by
      rw [Int.tmod_eq_emod_of_nonneg (by omega), w64_id (by omega) (by omega)]; omega
    have w3 : decide (Int.tmod (k : Int) 2 = 0) = decide (k % 2 = 0) := by rw [Int.tmod_eq_emod_of_nonneg (by omega), decide_eq_decide]; omega
    obtain ⟨hup, hl3⟩ := hqk k hkl
    obtain ⟨gk, hI'⟩ := hI.give hkl hup
    obtain ⟨last, hlast⟩ : ∃ last, last = decide (k % 2 = 0) := ⟨_, rfl⟩
    obtain ⟨l, hl⟩ : ∃ l, l = qs.getD k [] := ⟨_, rfl⟩
    obtain ⟨cur2, hc2⟩ : ∃ cur2, cur2 = cur.set k (gave default (qs.getD k []) (decide (k % 2 = 0))) := ⟨_, rfl⟩
    have hb1 := hI.len hlen
    have hkc : k < cur2.length := by rw [hc2, List.length_set, hI.1]; exact hkl
    have hsk : sg cur2 k = gave default l last := by rw [hc2, sg_set (by rw [hI.1]; exact hkl), if_pos rfl, hl, hlast]
    have hcl : cur2.length = qs.length := by rw [hc2, List.length_set]; exact hI.1
    have hb2 : ∀ j, j < cur2.length → (sg cur2 j).l.length ≤ 3000 := by
      rw [← hc2] at hI'
      exact hI'.len hlen
    rw [← hc2, ← hl, ← hlast] at gk
    rw [← hc2] at hI'
    have hcq : cur.length = qs.length := hI.1
    clear hI
    obtain ⟨b1, o1, rfl⟩ := os.at (by omega)
    have gS : ∀ {H' : Heap}, Ext G2 H' → ∃ a' cap', hget H' b1 (o1 + k) = some (.slice a' l.length cap') ∧ Prs H' (.slice a' l.length cap') l := fun hx => by rw [hl]; exact (os.ext hx).get hkl
    rw [← hl] at hup hl3
    obtain ⟨as1, cs1, g1, hp1⟩ := gS xg
    simp only [go_sem, ↓reduceIte, Nat.reduceEqDiff, Nat.reduceLeDiff, Nat.reduceAdd, Nat.reduceMul, Nat.reduceSub, Nat.reduceBEq, Nat.reduceGT, Nat.reduceLT, Int.reduceLE, Int.reduceLT, Int.reduceNeg, reduceCtorEq, c10_L0, e5, e8, e9, e10, e11, i1, z0, w2, w3, ← hlast, g1, Int.toNat_natCast, Option.bind_some, show ¬ (2 : Int) = 0 by decide, ne_eq, not_false_eq_true]
    
    refine FunI.by (F18 _ l _ hp1 (by omega)) ?_
    rintro v2 H11 ⟨o2, y⟩
    have hn2 : ∀ g, blk v2 = some g → ¬ F1 g := fun g hg hf => by have := (o2.blk hg).1; have := mg1.lt hf; omega
    replace xg := xg.trans (y.mono xg.size)
    replace mg1 := mg1.ext y
    replace mg2 := mg2.ext y
    clear y
    simp only [go_sem, ↓reduceIte, Nat.reduceEqDiff, Nat.reduceLeDiff, Nat.reduceAdd, Nat.reduceMul, Nat.reduceSub, Nat.reduceBEq, Nat.reduceGT, Nat.reduceLT, Int.reduceLE, Int.reduceLT, Int.reduceNeg, reduceCtorEq, e5, e8, e9, e10, e11, ← hlast]
    refine FunI.by (mg_give mg1 k (prs_own o2) hn2 last (fun j hj => by have := hb1 j hj; omega)) ?_
    rintro _ H12 ⟨rfl, F1', mg1', c⟩
    rw [gk] at mg1'
    clear o2 hn2 hp1 g1
    obtain ⟨mg2', D'⟩ := mg2.keep c D
    have f1' := c.ge f1 xg.size
    replace xg := xg.trans (c.upto f1 xg.size)
    clear mg1 mg2 D f1 c
    obtain ⟨mg1, mg2, D, f1⟩ : _ ∧ _ ∧ _ ∧ _ := ⟨mg1', mg2', D', f1'⟩
    clear mg1' mg2' D' f1' F1
    obtain ⟨F1, hFF⟩ : ∃ F1, F1 = F1' := ⟨_, rfl⟩
    subst hFF
    simp only [go_sem, ↓reduceIte, Nat.reduceEqDiff, Nat.reduceLeDiff, Nat.reduceAdd, Nat.reduceMul, Nat.reduceSub, Nat.reduceBEq, Nat.reduceGT, Nat.reduceLT, Int.reduceLE, Int.reduceLT, Int.reduceNeg, reduceCtorEq, e5, e8, e9, e10, e11, gk]
    obtain ⟨as1, cs1, g1, hp1⟩ := gS xg
    simp only [go_sem, ↓reduceIte, Nat.reduceEqDiff, Nat.reduceLeDiff, Nat.reduceAdd, Nat.reduceMul, Nat.reduceSub, Nat.reduceBEq, Nat.reduceGT, Nat.reduceLT, Int.reduceLE, Int.reduceLT, Int.reduceNeg, reduceCtorEq, e5, e8, e9, e10, e11, i1, z0, g1, Int.toNat_natCast, Option.bind_some]
    refine FunI.by (F18 _ l _ hp1 (by omega)) ?_
    rintro v2 H13 ⟨o2, y⟩
    have hn2 : ∀ g, blk v2 = some g → ¬ F2 g := fun g hg hf => by have := (o2.blk hg).1; have := mg2.lt hf; omega
    replace xg := xg.trans (y.mono xg.size)
    replace mg1 := mg1.ext y
    replace mg2 := mg2.ext y
    clear y
    simp only [go_sem, ↓reduceIte, Nat.reduceEqDiff, Nat.reduceLeDiff, Nat.reduceAdd, Nat.reduceMul, Nat.reduceSub, Nat.reduceBEq, Nat.reduceGT, Nat.reduceLT, Int.reduceLE, Int.reduceLT, Int.reduceNeg, reduceCtorEq, e5, e8, e9, e10, e11, ← hlast]
    refine FunI.by (mg_give mg2 k (prs_own o2) hn2 last (fun j hj => by have := hb1 j hj; omega)) ?_
    rintro _ H14 ⟨rfl, F2', mg2', c⟩
    rw [gk] at mg2'
    clear o2 hn2 hp1 g1
    obtain ⟨mg1', D0⟩ := mg1.keep c (fun b h1 h2 => D b h2 h1)
    have D' : ∀ b, F2' b → ¬ F1 b := fun b h2 h1 => D0 b h1 h2
    have f2' := c.ge f2 xg.size
    replace xg := xg.trans (c.upto f2 xg.size)
    clear mg1 mg2 D D0 f2 c
    obtain ⟨mg1, mg2, D, f2⟩ : _ ∧ _ ∧ _ ∧ _ := ⟨mg1', mg2', D', f2'⟩
    clear mg1' mg2' D' f2' F2
    obtain ⟨F2, hFF⟩ : ∃ F2, F2 = F2' := ⟨_, rfl⟩
    subst hFF
    simp only [go_sem, ↓reduceIte, Nat.reduceEqDiff, Nat.reduceLeDiff, Nat.reduceAdd, Nat.reduceMul, Nat.reduceSub, Nat.reduceBEq, Nat.reduceGT, Nat.reduceLT, Int.reduceLE, Int.reduceLT, Int.reduceNeg, reduceCtorEq, e5, e8, e9, e10, e11, gk]
    have cq : H14[H.size]? = some (Obj.cells #[Value.int .i64 p.1, Value.int .i64 p.2] 24) := (xg.get _ la).trans ca
    have gp0 : V.hget H14 H.size 0 = some (.int .i64 p.1) := by rw [hget_cells cq]; rfl
    have gp1 : V.hget H14 H.size 1 = some (.int .i64 p.2) := by rw [hget_cells cq]; rfl
    simp only [go_sem, ↓reduceIte, Nat.reduceEqDiff, Nat.reduceLeDiff, Nat.reduceAdd, Nat.reduceMul, Nat.reduceSub, Nat.reduceBEq, Nat.reduceGT, Nat.reduceLT, Int.reduceLE, Int.reduceLT, Int.reduceNeg, reduceCtorEq, e5, e8, e9, e10, e11, gp0, gp1, Option.bind_some]
    obtain ⟨H15, hH15⟩ : ∃ G, G = Array.push H14 (Obj.cells #[Value.int .i64 p.1, Value.int .i64 p.2, Value.int .i64 p.1, Value.int .i64 p.2] 24) := ⟨_, rfl⟩
    have pl : Prs H15 (.slice (some ⟨H14.size, 0, none⟩) 2 2) [p, p] := by rw [hH15]; exact prs_new rfl
    have y : Ext H14 H15 := by rw [hH15]; exact Ext.push _
    rw [← hH15]
    clear hH15 gp0 gp1 cq
    have hn2 : ∀ g, blk (.slice (some ⟨H14.size, 0, none⟩) 2 2) = some g → ¬ F1 g := fun g hg hf => by cases hg; exact Nat.lt_irrefl _ (mg1.lt hf)
    replace xg := xg.trans (y.mono xg.size)
    replace mg1 := mg1.ext y
    replace mg2 := mg2.ext y
    clear y
    have gc : giveS cur2 k [p, p] true = (cur2, if last then 112 else 111) := by
      cases hla : last with
      | true => exact give_end (by rw [hsk, hla]; rfl)
      | false => exact give_rise hkc (by rw [hsk, hla]; rfl) (by unfold fits; rw [rise_pp]; rfl)
    have go : giveS cur2 (qs.length : Int) [] true = (cur2, 112) := by rw [← hcl]; exact give_out
    have gn : giveS cur2 (-1) [] true = (cur2, 112) := give_neg
    refine FunI.by (mg_give mg1 k pl hn2 true (fun j hj => by have := hb2 j hj; simp only [List.length_cons, List.length_nil]; omega)) ?_
    rintro _ H16 ⟨rfl, F1', mg1', c⟩
    rw [gc] at mg1'
    clear pl hn2
    obtain ⟨mg2', D'⟩ := mg2.keep c D
    have f1' := c.ge f1 xg.size
    replace xg := xg.trans (c.upto f1 xg.size)
    clear mg1 mg2 D f1 c
    obtain ⟨mg1, mg2, D, f1⟩ : _ ∧ _ ∧ _ ∧ _ := ⟨mg1', mg2', D', f1'⟩
    clear mg1' mg2' D' f1' F1
    obtain ⟨F1, hFF⟩ : ∃ F1, F1 = F1' := ⟨_, rfl⟩
    subst hFF
    simp only [go_sem, ↓reduceIte, Nat.reduceEqDiff, Nat.reduceLeDiff, Nat.reduceAdd, Nat.reduceMul, Nat.reduceSub, Nat.reduceBEq, Nat.reduceGT, Nat.reduceLT, Int.reduceLE, Int.reduceLT, Int.reduceNeg, reduceCtorEq, e5, e8, e9, e10, e11, gc]
    refine FunI.by (mg_give mg1 (qs.length : Int) prs_nil (fun g hg => by cases hg) true (fun j hj => by have := hb2 j hj; simp only [List.length_nil]; omega)) ?_
    rintro _ H17 ⟨rfl, F1', mg1', c⟩
    replace mg1' : Mg _ (giveS cur2 (qs.length : Int) [] true).1 F1' _ := mg1'
    rw [go] at mg1'
    obtain ⟨mg2', D'⟩ := mg2.keep c D
    have f1' := c.ge f1 xg.size
    replace xg := xg.trans (c.upto f1 xg.size)
    clear mg1 mg2 D f1 c
    obtain ⟨mg1, mg2, D, f1⟩ : _ ∧ _ ∧ _ ∧ _ := ⟨mg1', mg2', D', f1'⟩
    clear mg1' mg2' D' f1' F1
    obtain ⟨F1, hFF⟩ : ∃ F1, F1 = F1' := ⟨_, rfl⟩
    subst hFF
    simp only [go_sem, ↓reduceIte, Nat.reduceEqDiff, Nat.reduceLeDiff, Nat.reduceAdd, Nat.reduceMul, Nat.reduceSub, Nat.reduceBEq, Nat.reduceGT, Nat.reduceLT, Int.reduceLE, Int.reduceLT, Int.reduceNeg, reduceCtorEq, e5, e8, e9, e10, e11, go]
    refine FunI.by (mg_give mg1 (-1) prs_nil (fun g hg => by cases hg) true (fun j hj => by have := hb2 j hj; simp only [List.length_nil]; omega)) ?_
    rintro _ H18 ⟨rfl, F1', mg1', c⟩
    replace mg1' : Mg _ (giveS cur2 (-1) [] true).1 F1' _ := mg1'
    rw [gn] at mg1'
    obtain ⟨mg2', D'⟩ := mg2.keep c D
    have f1' := c.ge f1 xg.size
    replace xg := xg.trans (c.upto f1 xg.size)
    clear mg1 mg2 D f1 c
    obtain ⟨mg1, mg2, D, f1⟩ : _ ∧ _ ∧ _ ∧ _ := ⟨mg1', mg2', D', f1'⟩
    clear mg1' mg2' D' f1' F1
    obtain ⟨F1, hFF⟩ : ∃ F1, F1 = F1' := ⟨_, rfl⟩
    subst hFF
    simp only [go_sem, ↓reduceIte, Nat.reduceEqDiff, Nat.reduceLeDiff, Nat.reduceAdd, Nat.reduceMul, Nat.reduceSub, Nat.reduceBEq, Nat.reduceGT, Nat.reduceLT, Int.reduceLE, Int.reduceLT, Int.reduceNeg, reduceCtorEq, e5, e8, e9, e10, e11, gn]
    have w00 : IntKind.i64.wrap (0 + 0) = 0 := by decide
    clear hlast w3
    have u1 : ¬ (111 : Int) = 112 := by decide
    have u2 : ¬ (112 : Int) = 111 := by decide
    cases last
    case' false =>
      refine FunI.by (F23 _ _) ?_
      rintro _ _ ⟨rfl, rfl⟩
      simp only [go_sem, ↓reduceIte, Nat.reduceEqDiff, Nat.reduceLeDiff, Nat.reduceAdd, Nat.reduceMul, Nat.reduceSub, Nat.reduceBEq, Nat.reduceGT, Nat.reduceLT, Int.reduceLE, Int.reduceLT, Int.reduceNeg, reduceCtorEq, e5, e8, e9, e10, e11, w00, u1, u2, Bool.false_eq_true, if_false, if_true, decide_true, bne_self_eq_false]
      refine FunI.by (F23 _ _) ?_
      rintro _ _ ⟨rfl, rfl⟩
      simp only [go_sem, ↓reduceIte, Nat.reduceEqDiff, Nat.reduceLeDiff, Nat.reduceAdd, Nat.reduceMul, Nat.reduceSub, Nat.reduceBEq, Nat.reduceGT, Nat.reduceLT, Int.reduceLE, Int.reduceLT, Int.reduceNeg, reduceCtorEq, e5, e8, e9, e10, e11, w00, u1, u2, Bool.false_eq_true, if_false, if_true, decide_true, bne_self_eq_false]
      refine FunI.by (F23 _ _) ?_
      rintro _ _ ⟨rfl, rfl⟩
      simp only [go_sem, ↓reduceIte, Nat.reduceEqDiff, Nat.reduceLeDiff, Nat.reduceAdd, Nat.reduceMul, Nat.reduceSub, Nat.reduceBEq, Nat.reduceGT, Nat.reduceLT, Int.reduceLE, Int.reduceLT, Int.reduceNeg, reduceCtorEq, e5, e8, e9, e10, e11, w00, u1, u2, Bool.false_eq_true, if_false, if_true, decide_true, bne_self_eq_false]
      refine FunI.by (F23 _ _) ?_
      rintro _ _ ⟨rfl, rfl⟩
      simp only [go_sem, ↓reduceIte, Nat.reduceEqDiff, Nat.reduceLeDiff, Nat.reduceAdd, Nat.reduceMul, Nat.reduceSub, Nat.reduceBEq, Nat.reduceGT, Nat.reduceLT, Int.reduceLE, Int.reduceLT, Int.reduceNeg, reduceCtorEq, e5, e8, e9, e10, e11, w00, u1, u2, Bool.false_eq_true, if_false, if_true, decide_true, bne_self_eq_false]
      refine FunI.by (F23 _ _) ?_
      rintro _ _ ⟨rfl, rfl⟩
      simp only [go_sem, ↓reduceIte, Nat.reduceEqDiff, Nat.reduceLeDiff, Nat.reduceAdd, Nat.reduceMul, Nat.reduceSub, Nat.reduceBEq, Nat.reduceGT, Nat.reduceLT, Int.reduceLE, Int.reduceLT, Int.reduceNeg, reduceCtorEq, e5, e8, e9, e10, e11, w00, u1, u2, Bool.false_eq_true, if_false, if_true, decide_true, bne_self_eq_false]
      refine FunI.by (F23 _ _) ?_
      rintro _ _ ⟨rfl, rfl⟩
      simp only [go_sem, ↓reduceIte, Nat.reduceEqDiff, Nat.reduceLeDiff, Nat.reduceAdd, Nat.reduceMul, Nat.reduceSub, Nat.reduceBEq, Nat.reduceGT, Nat.reduceLT, Int.reduceLE, Int.reduceLT, Int.reduceNeg, reduceCtorEq, e5, e8, e9, e10, e11, w00, u1, u2, Bool.false_eq_true, if_false, if_true, decide_true, bne_self_eq_false]
    case' true =>
      refine FunI.by (F23 _ _) ?_
      rintro _ _ ⟨rfl, rfl⟩
      simp only [go_sem, ↓reduceIte, Nat.reduceEqDiff, Nat.reduceLeDiff, Nat.reduceAdd, Nat.reduceMul, Nat.reduceSub, Nat.reduceBEq, Nat.reduceGT, Nat.reduceLT, Int.reduceLE, Int.reduceLT, Int.reduceNeg, reduceCtorEq, e5, e8, e9, e10, e11, w00, u1, u2, Bool.false_eq_true, if_false, if_true, decide_true, bne_self_eq_false]
      refine FunI.by (F23 _ _) ?_
      rintro _ _ ⟨rfl, rfl⟩
      simp only [go_sem, ↓reduceIte, Nat.reduceEqDiff, Nat.reduceLeDiff, Nat.reduceAdd, Nat.reduceMul, Nat.reduceSub, Nat.reduceBEq, Nat.reduceGT, Nat.reduceLT, Int.reduceLE, Int.reduceLT, Int.reduceNeg, reduceCtorEq, e5, e8, e9, e10, e11, w00, u1, u2, Bool.false_eq_true, if_false, if_true, decide_true, bne_self_eq_false]
      refine FunI.by (F23 _ _) ?_
      rintro _ _ ⟨rfl, rfl⟩
      simp only [go_sem, ↓reduceIte, Nat.reduceEqDiff, Nat.reduceLeDiff, Nat.reduceAdd, Nat.reduceMul, Nat.reduceSub, Nat.reduceBEq, Nat.reduceGT, Nat.reduceLT, Int.reduceLE, Int.reduceLT, Int.reduceNeg, reduceCtorEq, e5, e8, e9, e10, e11, w00, u1, u2, Bool.false_eq_true, if_false, if_true, decide_true, bne_self_eq_false]
      refine FunI.by (F23 _ _) ?_
      rintro _ _ ⟨rfl, rfl⟩
      simp only [go_sem, ↓reduceIte, Nat.reduceEqDiff, Nat.reduceLeDiff, Nat.reduceAdd, Nat.reduceMul, Nat.reduceSub, Nat.reduceBEq, Nat.reduceGT, Nat.reduceLT, Int.reduceLE, Int.reduceLT, Int.reduceNeg, reduceCtorEq, e5, e8, e9, e10, e11, w00, u1, u2, Bool.false_eq_true, if_false, if_true, decide_true, bne_self_eq_false]
      refine FunI.by (F23 _ _) ?_
      rintro _ _ ⟨rfl, rfl⟩
      simp only [go_sem, ↓reduceIte, Nat.reduceEqDiff, Nat.reduceLeDiff, Nat.reduceAdd, Nat.reduceMul, Nat.reduceSub, Nat.reduceBEq, Nat.reduceGT, Nat.reduceLT, Int.reduceLE, Int.reduceLT, Int.reduceNeg, reduceCtorEq, e5, e8, e9, e10, e11, w00, u1, u2, Bool.false_eq_true, if_false, if_true, decide_true, bne_self_eq_false]
      refine FunI.by (F23 _ _) ?_
      rintro _ _ ⟨rfl, rfl⟩
      simp only [go_sem, ↓reduceIte, Nat.reduceEqDiff, Nat.reduceLeDiff, Nat.reduceAdd, Nat.reduceMul, Nat.reduceSub, Nat.reduceBEq, Nat.reduceGT, Nat.reduceLT, Int.reduceLE, Int.reduceLT, Int.reduceNeg, reduceCtorEq, e5, e8, e9, e10, e11, w00, u1, u2, Bool.false_eq_true, if_false, if_true, decide_true, bne_self_eq_false]
      refine FunI.by (F23 _ _) ?_
      rintro _ _ ⟨rfl, rfl⟩
      simp only [go_sem, ↓reduceIte, Nat.reduceEqDiff, Nat.reduceLeDiff, Nat.reduceAdd, Nat.reduceMul, Nat.reduceSub, Nat.reduceBEq, Nat.reduceGT, Nat.reduceLT, Int.reduceLE, Int.reduceLT, Int.reduceNeg, reduceCtorEq, e5, e8, e9, e10, e11, w00, u1, u2, Bool.false_eq_true, if_false, if_true, decide_true, bne_self_eq_false]
    all_goals
      have w5 : IntKind.i64.wrap ((k : Int) + 1) = ((k + 1 : Nat) : Int) := by rw [w64_id (by omega) (by omega)]; omega
      simp only [w5]
      refine ⟨Hold.mk ⟨k + 1, cur2, F1, F2, by simp only [go_sem, ↓reduceIte, Nat.reduceEqDiff, Nat.reduceLeDiff, Nat.reduceAdd, Nat.reduceMul, Nat.reduceSub, Nat.reduceBEq, Nat.reduceGT, Nat.reduceLT, Int.reduceLE, Int.reduceLT, Int.reduceNeg, reduceCtorEq, e5], by simp only [go_sem, ↓reduceIte, Nat.reduceEqDiff, Nat.reduceLeDiff, Nat.reduceAdd, Nat.reduceMul, Nat.reduceSub, Nat.reduceBEq, Nat.reduceGT, Nat.reduceLT, Int.reduceLE, Int.reduceLT, Int.reduceNeg, reduceCtorEq, e8], by simp only [go_sem, ↓reduceIte, Nat.reduceEqDiff, Nat.reduceLeDiff, Nat.reduceAdd, Nat.reduceMul, Nat.reduceSub, Nat.reduceBEq, Nat.reduceGT, Nat.reduceLT, Int.reduceLE, Int.reduceLT, Int.reduceNeg, reduceCtorEq, e9], by simp only [go_sem, ↓reduceIte, Nat.reduceEqDiff, Nat.reduceLeDiff, Nat.reduceAdd, Nat.reduceMul, Nat.reduceSub, Nat.reduceBEq, Nat.reduceGT, Nat.reduceLT, Int.reduceLE, Int.reduceLT, Int.reduceNeg, reduceCtorEq, e10], by simp only [go_sem, ↓reduceIte, Nat.reduceEqDiff, Nat.reduceLeDiff, Nat.reduceAdd, Nat.reduceMul, Nat.reduceSub, Nat.reduceBEq, Nat.reduceGT, Nat.reduceLT, Int.reduceLE, Int.reduceLT, Int.reduceNeg, reduceCtorEq], by omega, hI', mg1, mg2, D, f1, f2, xg⟩, by omega⟩
  · have i1 : ¬ (k : Int) < qs.length := by omega
    simp only [go_sem, ↓reduceIte, Nat.reduceEqDiff, Nat.reduceLeDiff, Nat.reduceAdd, Nat.reduceMul, Nat.reduceSub, Nat.reduceBEq, Nat.reduceGT, Nat.reduceLT, Int.reduceLE, Int.reduceLT, Int.reduceNeg, reduceCtorEq, c10_L0, e5, e8, e9, e10, e11, i1]
    obtain rfl : k = qs.length := by omega
    have hJ := hI.toJ hlen
    refine LoopI.by mixed (fun ρ H' => ∃ (k : Nat) (cur : List Src) (F1 F2 : Nat → Prop), ρ 8 = .slice a1 qs.length c1 ∧ ρ 9 = .pointer (some ⟨M1, 0, none⟩) ∧ ρ 10 = .pointer (some ⟨M2, 0, none⟩) ∧ ρ 18 = .int .i64 k ∧ k % 2 = 1 ∧ k ≤ qs.length + 2 ∧ RefJ qs.length cur k ∧ Mg (.pointer (some ⟨M1, 0, none⟩)) cur F1 H' ∧ Mg (.pointer (some ⟨M2, 0, none⟩)) cur F2 H' ∧
      (∀ b, F2 b → ¬ F1 b) ∧ (∀ b, F1 b → G2.size ≤ b) ∧ (∀ b, F2 b → G2.size ≤ b) ∧ Ext G2 H') (fun ρ _ => qs.length + 2 - (iof (ρ 18)).toNat) ?_ ?_
    · exact ⟨1, cur, F1, F2, by simp only [go_sem, ↓reduceIte, Nat.reduceEqDiff, Nat.reduceLeDiff, Nat.reduceAdd, Nat.reduceMul, Nat.reduceSub, Nat.reduceBEq, Nat.reduceGT, Nat.reduceLT, Int.reduceLE, Int.reduceLT, Int.reduceNeg, reduceCtorEq, e8], by simp only [go_sem, ↓reduceIte, Nat.reduceEqDiff, Nat.reduceLeDiff, Nat.reduceAdd, Nat.reduceMul, Nat.reduceSub, Nat.reduceBEq, Nat.reduceGT, Nat.reduceLT, Int.reduceLE, Int.reduceLT, Int.reduceNeg, reduceCtorEq, e9], by simp only [go_sem, ↓reduceIte, Nat.reduceEqDiff, Nat.reduceLeDiff, Nat.reduceAdd, Nat.reduceMul, Nat.reduceSub, Nat.reduceBEq, Nat.reduceGT, Nat.reduceLT, Int.reduceLE, Int.reduceLT, Int.reduceNeg, reduceCtorEq, e10], by simp only [go_sem, ↓reduceIte, Nat.reduceEqDiff, Nat.reduceLeDiff, Nat.reduceAdd, Nat.reduceMul, Nat.reduceSub, Nat.reduceBEq, Nat.reduceGT, Nat.reduceLT, Int.reduceLE, Int.reduceLT, Int.reduceNeg, reduceCtorEq]; rfl, by omega, by omega, hJ, mg1, mg2, D, f1, f2, xg⟩
    clear mg1 mg2 D f1 f2 xg F1 F2 e5 e8 e9 e10 e11 hJ hI
    rintro ρ2 H20 ⟨k, cur, F1, F2, e8, e9, e10, e18, hk2, hk, hJ, mg1, mg2, D, f1, f2, xg⟩
    by_cases hkl : k < qs.length
    · have i1 : (k : Int) < qs.length := by omega
      obtain ⟨gk, hJ'⟩ := hJ.give hkl hk2
      have hb1 := hJ.2.1
      have hcq := hJ.1
      simp only [go_sem, ↓reduceIte, Nat.reduceEqDiff, Nat.reduceLeDiff, Nat.reduceAdd, Nat.reduceMul, Nat.reduceSub, Nat.reduceBEq, Nat.reduceGT, Nat.reduceLT, Int.reduceLE, Int.reduceLT, Int.reduceNeg, reduceCtorEq, c10_L1, e8, e9, e10, e18, i1]
      refine FunI.by (mg_wants mg1) ?_
      rintro _ H21 ⟨rfl, y⟩
      replace xg := xg.trans (y.mono xg.size)
      replace mg1 := mg1.ext y
      replace mg2 := mg2.ext y
      clear y
      simp only [go_sem, ↓reduceIte, Nat.reduceEqDiff, Nat.reduceLeDiff, Nat.reduceAdd, Nat.reduceMul, Nat.reduceSub, Nat.reduceBEq, Nat.reduceGT, Nat.reduceLT, Int.reduceLE, Int.reduceLT, Int.reduceNeg, reduceCtorEq, e8, e9, e10, e18, decide_true]
      refine FunI.by (mg_wants mg2) ?_
      rintro _ H22 ⟨rfl, y⟩
      replace xg := xg.trans (y.mono xg.size)
      replace mg1 := mg1.ext y
      replace mg2 := mg2.ext y
      clear y
      simp only [go_sem, ↓reduceIte, Nat.reduceEqDiff, Nat.reduceLeDiff, Nat.reduceAdd, Nat.reduceMul, Nat.reduceSub, Nat.reduceBEq, Nat.reduceGT, Nat.reduceLT, Int.reduceLE, Int.reduceLT, Int.reduceNeg, reduceCtorEq, e8, e9, e10, e18, decide_true]
      refine FunI.by (mg_left mg1 (fun j hj => by have := hb1 j (by omega); omega)) ?_
      rintro _ H23 ⟨rfl, y⟩
      replace xg := xg.trans (y.mono xg.size)
      replace mg1 := mg1.ext y
      replace mg2 := mg2.ext y
      clear y
      simp only [go_sem, ↓reduceIte, Nat.reduceEqDiff, Nat.reduceLeDiff, Nat.reduceAdd, Nat.reduceMul, Nat.reduceSub, Nat.reduceBEq, Nat.reduceGT, Nat.reduceLT, Int.reduceLE, Int.reduceLT, Int.reduceNeg, reduceCtorEq, e8, e9, e10, e18, decide_true]
      refine FunI.by (mg_left mg2 (fun j hj => by have := hb1 j (by omega); omega)) ?_
      rintro _ H24 ⟨rfl, y⟩
      replace xg := xg.trans (y.mono xg.size)
      replace mg1 := mg1.ext y
      replace mg2 := mg2.ext y
      clear y
      simp only [go_sem, ↓reduceIte, Nat.reduceEqDiff, Nat.reduceLeDiff, Nat.reduceAdd, Nat.reduceMul, Nat.reduceSub, Nat.reduceBEq, Nat.reduceGT, Nat.reduceLT, Int.reduceLE, Int.reduceLT, Int.reduceNeg, reduceCtorEq, e8, e9, e10, e18, decide_true]
      refine FunI.by (mg_give mg1 k prs_nil (fun g hg => by cases hg) true (fun j hj => by have := hb1 j (by omega); simp only [List.length_nil]; omega)) ?_
      rintro _ H25 ⟨rfl, F1', mg1', c⟩
      replace mg1' : Mg _ (giveS cur k [] true).1 F1' _ := mg1'
      rw [gk] at mg1'
      obtain ⟨mg2', D'⟩ := mg2.keep c D
      have f1' := c.ge f1 xg.size
      replace xg := xg.trans (c.upto f1 xg.size)
      clear mg1 mg2 D f1 c
      obtain ⟨mg1, mg2, D, f1⟩ : _ ∧ _ ∧ _ ∧ _ := ⟨mg1', mg2', D', f1'⟩
      clear mg1' mg2' D' f1' F1
      obtain ⟨F1, hFF⟩ : ∃ F1, F1 = F1' := ⟨_, rfl⟩
      subst hFF
      simp only [go_sem, ↓reduceIte, Nat.reduceEqDiff, Nat.reduceLeDiff, Nat.reduceAdd, Nat.reduceMul, Nat.reduceSub, Nat.reduceBEq, Nat.reduceGT, Nat.reduceLT, Int.reduceLE, Int.reduceLT, Int.reduceNeg, reduceCtorEq, e8, e9, e10, e18, gk]
      refine FunI.by (mg_give mg2 k prs_nil (fun g hg => by cases hg) true (fun j hj => by have := hb1 j (by omega); simp only [List.length_nil]; omega)) ?_
      rintro _ H26 ⟨rfl, F2', mg2', c⟩
      replace mg2' : Mg _ (giveS cur k [] true).1 F2' _ := mg2'
      rw [gk] at mg2'
      obtain ⟨mg1', D0⟩ := mg1.keep c (fun b h1 h2 => D b h2 h1)
      have D' : ∀ b, F2' b → ¬ F1 b := fun b h2 h1 => D0 b h1 h2
      have f2' := c.ge f2 xg.size
      replace xg := xg.trans (c.upto f2 xg.size)
      clear mg1 mg2 D D0 f2 c
      obtain ⟨mg1, mg2, D, f2⟩ : _ ∧ _ ∧ _ ∧ _ := ⟨mg1', mg2', D', f2'⟩
      clear mg1' mg2' D' f2' F2
      obtain ⟨F2, hFF⟩ : ∃ F2, F2 = F2' := ⟨_, rfl⟩
      subst hFF
      simp only [go_sem, ↓reduceIte, Nat.reduceEqDiff, Nat.reduceLeDiff, Nat.reduceAdd, Nat.reduceMul, Nat.reduceSub, Nat.reduceBEq, Nat.reduceGT, Nat.reduceLT, Int.reduceLE, Int.reduceLT, Int.reduceNeg, reduceCtorEq, e8, e9, e10, e18, gk]
      have w00 : IntKind.i64.wrap (0 + 0) = 0 := by decide
      refine FunI.by (F23 _ _) ?_
      rintro _ _ ⟨rfl, rfl⟩
      simp only [go_sem, ↓reduceIte, Nat.reduceEqDiff, Nat.reduceLeDiff, Nat.reduceAdd, Nat.reduceMul, Nat.reduceSub, Nat.reduceBEq, Nat.reduceGT, Nat.reduceLT, Int.reduceLE, Int.reduceLT, Int.reduceNeg, reduceCtorEq, e8, e9, e10, e18, w00, decide_true]
      refine FunI.by (F23 _ _) ?_
      rintro _ _ ⟨rfl, rfl⟩
      simp only [go_sem, ↓reduceIte, Nat.reduceEqDiff, Nat.reduceLeDiff, Nat.reduceAdd, Nat.reduceMul, Nat.reduceSub, Nat.reduceBEq, Nat.reduceGT, Nat.reduceLT, Int.reduceLE, Int.reduceLT, Int.reduceNeg, reduceCtorEq, e8, e9, e10, e18, w00, decide_true]
      have w6 : IntKind.i64.wrap ((k : Int) + 2) = ((k + 2 : Nat) : Int) := by rw [w64_id (by omega) (by omega)]; omega
      simp only [w6]
      refine ⟨Hold.mk ⟨k + 2, cur.set k (gave (sg cur k) [] true), F1, F2, by simp only [go_sem, ↓reduceIte, Nat.reduceEqDiff, Nat.reduceLeDiff, Nat.reduceAdd, Nat.reduceMul, Nat.reduceSub, Nat.reduceBEq, Nat.reduceGT, Nat.reduceLT, Int.reduceLE, Int.reduceLT, Int.reduceNeg, reduceCtorEq, e8], by simp only [go_sem, ↓reduceIte, Nat.reduceEqDiff, Nat.reduceLeDiff, Nat.reduceAdd, Nat.reduceMul, Nat.reduceSub, Nat.reduceBEq, Nat.reduceGT, Nat.reduceLT, Int.reduceLE, Int.reduceLT, Int.reduceNeg, reduceCtorEq, e9], by simp only [go_sem, ↓reduceIte, Nat.reduceEqDiff, Nat.reduceLeDiff, Nat.reduceAdd, Nat.reduceMul, Nat.reduceSub, Nat.reduceBEq, Nat.reduceGT, Nat.reduceLT, Int.reduceLE, Int.reduceLT, Int.reduceNeg, reduceCtorEq, e10], by simp only [go_sem, ↓reduceIte, Nat.reduceEqDiff, Nat.reduceLeDiff, Nat.reduceAdd, Nat.reduceMul, Nat.reduceSub, Nat.reduceBEq, Nat.reduceGT, Nat.reduceLT, Int.reduceLE, Int.reduceLT, Int.reduceNeg, reduceCtorEq], by omega, by omega, hJ', mg1, mg2, D, f1, f2, xg⟩, by omega⟩
    · have i1 : ¬ (k : Int) < qs.length := by omega
      simp only [go_sem, ↓reduceIte, Nat.reduceEqDiff, Nat.reduceLeDiff, Nat.reduceAdd, Nat.reduceMul, Nat.reduceSub, Nat.reduceBEq, Nat.reduceGT, Nat.reduceLT, Int.reduceLE, Int.reduceLT, Int.reduceNeg, reduceCtorEq, c10_L1, e8, e9, e10, e18, i1]
      have hb1 := hJ.2.1
      have hcq := hJ.1
      have t1 := F36 mg1 (fun j hj => by have := hb1 j (by omega); omega) (v := .slice none 0 0) (out := []) (B := H20.size) Own.nil (Nat.le_refl _) (fun g hg => by cases hg) 1048576 (by omega) (by simp)
      rw [show ((1048576 : Nat) : Int) = 1048576 from rfl] at t1
      refine FunI.by t1 ?_
      rintro r1 H21 ⟨sa, oa, Fa, ow1, ta, mga, hra, cha⟩
      obtain ⟨mg2', D2⟩ := mg2.keep cha (fun b h2 hh => by
        rcases hh with hh | hh
        · exact D b h2 hh
        · cases hh)
      have xh := xg.trans (cha.upto (B := G2.size) (fun b hb => by
        rcases hb with hb | hb
        · exact f1 b hb
        · cases hb) xg.size)
      simp only [go_sem, ↓reduceIte, Nat.reduceEqDiff, Nat.reduceLeDiff, Nat.reduceAdd, Nat.reduceMul, Nat.reduceSub, Nat.reduceBEq, Nat.reduceGT, Nat.reduceLT, Int.reduceLE, Int.reduceLT, Int.reduceNeg, reduceCtorEq, e8, e9, e10]
      have t2 := F36 mg2' (fun j hj => by have := hb1 j (by omega); omega) (v := .slice none 0 0) (out := []) (B := H21.size) Own.nil (Nat.le_refl _) (fun g hg => by cases hg) 1048576 (by omega) (by simp)
      rw [show ((1048576 : Nat) : Int) = 1048576 from rfl] at t2
      refine FunI.by t2 ?_
      rintro r2 H22 ⟨sb, ob, Fb, ow2, tb, mgb, hrb, chb⟩
      obtain ⟨_, rfl⟩ := ta.unique tb
      have xh2 := xh.trans (chb.upto (B := G2.size) (fun b hb => by
        rcases hb with hb | hb
        · exact f2 b hb
        · cases hb) xh.size)
      have ow1' := ow1.keep (H' := H22) fun g hg => chb.get g (ow1.blk hg).2.1 (fun hh => by
        rcases hh with hh | hh
        · exact D2 g hh (.inr hg)
        · cases hh)
      have hol := ta.len (by simp)
      simp only [go_sem, ↓reduceIte, Nat.reduceEqDiff, Nat.reduceLeDiff, Nat.reduceAdd, Nat.reduceMul, Nat.reduceSub, Nat.reduceBEq, Nat.reduceGT, Nat.reduceLT, Int.reduceLE, Int.reduceLT, Int.reduceNeg, reduceCtorEq]
      refine FunI.by (F15 _ _ oa oa _ (prs_own ow1') (prs_own ow2) (by omega)) ?_
      rintro _ _ ⟨rfl, rfl⟩
      simp only [go_sem, ↓reduceIte, Nat.reduceEqDiff, Nat.reduceLeDiff, Nat.reduceAdd, Nat.reduceMul, Nat.reduceSub, Nat.reduceBEq, Nat.reduceGT, Nat.reduceLT, Int.reduceLE, Int.reduceLT, Int.reduceNeg, reduceCtorEq, decide_true]
      exact step x0 xh2 (Nat.le_refl _)
end Go.Proofs.Ytcgejfmbhpmjfaa
