/- The laws' small helpers: room, still, num. -/
import Derived.Test.YtcgejfmbhpmjfaaVStore
import Derived.Test.YtcgejfmbhpmjfaaVOwn2
set_option linter.unusedSimpArgs false
set_option linter.unusedVariables false
set_option maxRecDepth 20000
namespace Go.Proofs.Ytcgejfmbhpmjfaa
open Go Go.V
-- 14: pith/pithlaw11.room
-- 19: pith/pithlaw11.still
-- 23: pith/pithlaw11.num
-- 39: pith/pithlaw11.arc
-- 18: pith/pithref.Pairs
-- 15: pith/pithref.SamePairs
-- 3: int
-- 24: pith/api.Pair
-- 22: []api.Pair
/-- The two arcs behind. -/
def tailP : List Pr := [(201, 202), (203, 204)]
/-- A list in room of its own, with two arcs behind it. -/
def Room (H : Heap) (B : Nat) (v : Value) (ps : List Pr) : Prop :=
  ∃ g cap, v = .slice (some ⟨g, 0, none⟩) ps.length cap ∧ ps.length + 2 ≤ cap ∧ Own H B 24 2 (.slice (some ⟨g, 0, none⟩) (ps.length + 2) cap) (cp (ps ++ tailP))
theorem Room.own {H : Heap} {B : Nat} {v : Value} {ps : List Pr} (h : Room H B v ps) : Own H B 24 2 v (cp ps) := by
  obtain ⟨g, cap, rfl, hc, ho⟩ := h
  have := ho.cut (n := ps.length) (by omega)
  rw [cp_take, List.take_left] at this
  exact this
theorem Room.prs {H : Heap} {B : Nat} {v : Value} {ps : List Pr} (h : Room H B v ps) : Prs H v ps := prs_own h.own
theorem Room.ext {H H' : Heap} {B : Nat} {v : Value} {ps : List Pr} (h : Room H B v ps) (hx : Ext H H') : Room H' B v ps := by
  obtain ⟨g, cap, rfl, hc, ho⟩ := h
  exact ⟨g, cap, rfl, hc, ho.ext hx⟩
theorem Room.ge {H : Heap} {B : Nat} {v : Value} {ps : List Pr} (h : Room H B v ps) : ∀ k, blk v = some k → B ≤ k := fun k hk => (h.own.blk hk).1
/-- m[i] = q. -/
theorem Room.store {H : Heap} {B g len cap : Nat} {ps : List Pr} (h : Room H B (.slice (some ⟨g, 0, none⟩) len cap) ps) {i : Nat} (hi : i < ps.length) (q : Pr) :
    hcan H g (i * 2) 2 ∧ Room (hput H g (i * 2) [.int .i64 q.1, .int .i64 q.2]) B (.slice (some ⟨g, 0, none⟩) len cap) (ps.set i q) ∧ But (some g) H (hput H g (i * 2) [.int .i64 q.1, .int .i64 q.2]) := by
  obtain ⟨g', cap', he, hc, ho⟩ := h
  cases he
  obtain ⟨h1, h2, h3⟩ := prs_store ho (i := i) (by simp; omega) q
  refine ⟨h1, ⟨g, cap, by rw [List.length_set], by rw [List.length_set]; exact hc, ?_⟩, h3⟩
  rw [List.set_append, if_pos hi] at h2
  rw [List.length_set]
  exact h2
theorem F14 (v : Value) (ps : List Pr) (H : Heap) (hv : Prs H v ps) (hl : ps.length ≤ 4096093020000) :
    Fun Try.prog 14 #[v] H (fun r H' => Room H' H.size r ps ∧ Ext H H') := by
  obtain ⟨a, c, rfl⟩ := prs_form hv
  refine fun_of mixed (args := [_]) Try.func14 Try.ntmps14 b14 r14 rfl ?_
  simp only [go_sem, ↓reduceIte, Nat.reduceEqDiff, Nat.reduceLeDiff, Nat.reduceAdd, Nat.reduceMul, Nat.reduceSub, Nat.reduceBEq, Nat.reduceGT, Nat.reduceLT, Int.reduceLE, Int.reduceLT, Int.reduceNeg, reduceCtorEq]
  refine FunI.by (F18 _ ps H hv (by omega)) ?_
  rintro v1 H1 ⟨o1, x1⟩
  simp only [go_sem, ↓reduceIte, Nat.reduceEqDiff, Nat.reduceLeDiff, Nat.reduceAdd, Nat.reduceMul, Nat.reduceSub, Nat.reduceBEq, Nat.reduceGT, Nat.reduceLT, Int.reduceLE, Int.reduceLT, Int.reduceNeg, reduceCtorEq]
  refine FunI.by (F39 201 202 _) ?_
  rintro _ H2 ⟨rfl, x2⟩
  simp only [go_sem, ↓reduceIte, Nat.reduceEqDiff, Nat.reduceLeDiff, Nat.reduceAdd, Nat.reduceMul, Nat.reduceSub, Nat.reduceBEq, Nat.reduceGT, Nat.reduceLT, Int.reduceLE, Int.reduceLT, Int.reduceNeg, reduceCtorEq]
  refine FunI.by (F39 203 204 _) ?_
  rintro _ H3 ⟨rfl, x3⟩
  simp only [go_sem, ↓reduceIte, Nat.reduceEqDiff, Nat.reduceLeDiff, Nat.reduceAdd, Nat.reduceMul, Nat.reduceSub, Nat.reduceBEq, Nat.reduceGT, Nat.reduceLT, Int.reduceLE, Int.reduceLT, Int.reduceNeg, reduceCtorEq]
  have x : Ext H H3 := (x1.trans (x2.mono x1.size)).trans (x3.mono (Nat.le_trans x1.size x2.size))
  replace o1 := (o1.ext x2).ext x3
  refine RunI.by (append_lit ty22 ty24 rfl (by decide) o1 (ys := cp tailP) (m := 2) rfl rfl (n := ps.length + 2) (by rw [cp_len, cp_len]; simp [tailP]; omega) (by show (ps.length + 2) * 16 ≤ _; omega) (by omega) x.size) ?_
  rintro v4 H4 ⟨o4, g4, _⟩
  have x4 : Ext H H4 := x.trans (g4.upto o1 x.size)
  rw [← cp_app] at o4
  rcases own_form o4 with ⟨_, h⟩ | ⟨g, cap, rfl, hc⟩
  · simp [tailP] at h
  · have e : (ps ++ tailP).length = ps.length + 2 := by simp [tailP]
    rw [e] at hc o4 ⊢
    simp only [go_sem, ↓reduceIte, Nat.reduceEqDiff, Nat.reduceLeDiff, Nat.reduceAdd, Nat.reduceMul, Nat.reduceSub, Nat.reduceBEq, Nat.reduceGT, Nat.reduceLT, Int.reduceLE, Int.reduceLT, Int.reduceNeg, reduceCtorEq]
    refine ⟨⟨by omega, by omega⟩, ⟨g, cap, rfl, hc, ?_⟩, x4⟩
    exact o4
theorem F23 (x : Int) (H : Heap) : Fun Try.prog 23 #[.int .i64 x] H (fun r H' => r = .int .i64 x ∧ H = H') := by
  refine fun_of mixed (args := [_]) Try.func23 Try.ntmps23 b23 r23 rfl ?_
  simp only [go_sem, ↓reduceIte, Nat.reduceEqDiff, Nat.reduceLeDiff, Nat.reduceAdd, Nat.reduceMul, Nat.reduceSub, Nat.reduceBEq, Nat.reduceGT, Nat.reduceLT, Int.reduceLE, Int.reduceLT, Int.reduceNeg, reduceCtorEq]
set_option maxHeartbeats 800000 in
theorem F19 (v u : Value) (ps : List Pr) (H : Heap) (B : Nat) (hv : Room H B v ps) (hu : Prs H u ps) (hB : B ≤ H.size) (hl : ps.length ≤ 4096093020000) :
    Fun Try.prog 19 #[v, u] H (fun r H' => r = .bool true ∧ Upto B H H') := by
  have hvp := hv.prs
  obtain ⟨g, cap, rfl, hc, ho⟩ := hv
  obtain ⟨a, c, rfl⟩ := prs_form hu
  refine fun_of mixed (args := [_, _]) Try.func19 Try.ntmps19 b19 r19 rfl ?_
  simp only [go_sem, ↓reduceIte, Nat.reduceEqDiff, Nat.reduceLeDiff, Nat.reduceAdd, Nat.reduceMul, Nat.reduceSub, Nat.reduceBEq, Nat.reduceGT, Nat.reduceLT, Int.reduceLE, Int.reduceLT, Int.reduceNeg, reduceCtorEq]
  refine FunI.by (F15 _ _ ps ps H hvp hu (by omega)) ?_
  rintro _ _ ⟨rfl, rfl⟩
  have w2 : IntKind.i64.wrap ((ps.length : Int) + 2) = ((ps.length + 2 : Nat) : Int) := by rw [w64_id (by omega) (by omega)]; omega
  have w1 : IntKind.i64.wrap ((ps.length : Int) + 1) = ((ps.length + 1 : Nat) : Int) := by rw [w64_id (by omega) (by omega)]; omega
  have z0 : (0 : Int) ≤ ((ps.length + 2 : Nat) : Int) := by omega
  have z1 : ((ps.length + 2 : Nat) : Int) ≤ cap := by omega
  have z2 : (0 : Int) ≤ ps.length := by omega
  have z3 : (ps.length : Int) < ((ps.length + 2 : Nat) : Int) := by omega
  have z4 : (0 : Int) ≤ ((ps.length + 1 : Nat) : Int) := by omega
  have z5 : ((ps.length + 1 : Nat) : Int) < ((ps.length + 2 : Nat) : Int) := by omega
  obtain ⟨p1, p2⟩ := prs_get0 (prs_own ho) (i := ps.length) (by simp [tailP])
  obtain ⟨p3, p4⟩ := prs_get0 (prs_own ho) (i := ps.length + 1) (by simp [tailP])
  have q1 : (ps ++ tailP).getD ps.length (0, 0) = (201, 202) := by simp [tailP]
  have q2 : (ps ++ tailP).getD (ps.length + 1) (0, 0) = (203, 204) := by simp [tailP]
  rw [q1] at p1 p2
  rw [q2] at p3 p4
  simp only [go_sem, ↓reduceIte, Nat.reduceEqDiff, Nat.reduceLeDiff, Nat.reduceAdd, Nat.reduceMul, Nat.reduceSub, Nat.reduceBEq, Nat.reduceGT, Nat.reduceLT, Int.reduceLE, Int.reduceLT, Int.reduceNeg, reduceCtorEq, w1, w2, z0, z1, z2, z3, z4, z5, p1, p2, p3, p4, Int.toNat_natCast, Option.bind_some, decide_true]
  refine FunI.by (F39 201 202 _) ?_
  rintro _ H1 ⟨rfl, x1⟩
  simp only [go_sem, ↓reduceIte, Nat.reduceEqDiff, Nat.reduceLeDiff, Nat.reduceAdd, Nat.reduceMul, Nat.reduceSub, Nat.reduceBEq, Nat.reduceGT, Nat.reduceLT, Int.reduceLE, Int.reduceLT, Int.reduceNeg, reduceCtorEq]
  refine ⟨x1, ?_⟩
  refine RunI.by (eq_pr _ _ (201, 202) (201, 202) H1) ?_
  rintro _ _ ⟨rfl, rfl⟩
  replace ho := ho.ext x1
  simp only [go_sem, ↓reduceIte, Nat.reduceEqDiff, Nat.reduceLeDiff, Nat.reduceAdd, Nat.reduceMul, Nat.reduceSub, Nat.reduceBEq, Nat.reduceGT, Nat.reduceLT, Int.reduceLE, Int.reduceLT, Int.reduceNeg, reduceCtorEq, w1, w2, z0, z1, z2, z3, z4, z5, p1, p2, p3, p4, Int.toNat_natCast, Option.bind_some, decide_true]
  refine ⟨x1, ?_⟩
  refine FunI.by (F39 203 204 _) ?_
  rintro _ H2 ⟨rfl, x2⟩
  simp only [go_sem, ↓reduceIte, Nat.reduceEqDiff, Nat.reduceLeDiff, Nat.reduceAdd, Nat.reduceMul, Nat.reduceSub, Nat.reduceBEq, Nat.reduceGT, Nat.reduceLT, Int.reduceLE, Int.reduceLT, Int.reduceNeg, reduceCtorEq, p3, p4, z2, z4, z5, w1, Option.bind_some, Int.toNat_natCast]
  refine ⟨x1.trans (x2.mono x1.size), ?_⟩
  refine RunI.by (eq_pr _ _ (203, 204) (203, 204) H2) ?_
  rintro _ _ ⟨rfl, rfl⟩
  replace ho := ho.ext x2
  simp only [go_sem, ↓reduceIte, Nat.reduceEqDiff, Nat.reduceLeDiff, Nat.reduceAdd, Nat.reduceMul, Nat.reduceSub, Nat.reduceBEq, Nat.reduceGT, Nat.reduceLT, Int.reduceLE, Int.reduceLT, Int.reduceNeg, reduceCtorEq, decide_true]
  refine ⟨x1.trans (x2.mono x1.size), ?_⟩
  refine LoopI.by mixed (fun ρ H' => ∃ (i : Nat) (qs : List Pr), ρ 5 = .bool true ∧ ρ 6 = .slice (some ⟨g, 0, none⟩) (ps.length + 2) cap ∧ ρ 7 = .bool true ∧ ρ 8 = .int .i64 i ∧ i ≤ ps.length + 2 ∧ qs.length = ps.length + 2 ∧ Own H' B 24 2 (.slice (some ⟨g, 0, none⟩) (ps.length + 2) cap) (cp qs) ∧ Upto B H H') (fun ρ _ => ps.length + 2 - (iof (ρ 8)).toNat) ?_ ?_
  · exact ⟨0, ps ++ tailP, by simp only [go_sem, ↓reduceIte, Nat.reduceEqDiff, Nat.reduceLeDiff, Nat.reduceAdd, Nat.reduceMul, Nat.reduceSub, Nat.reduceBEq, Nat.reduceGT, Nat.reduceLT, Int.reduceLE, Int.reduceLT, Int.reduceNeg, reduceCtorEq], by simp only [go_sem, ↓reduceIte, Nat.reduceEqDiff, Nat.reduceLeDiff, Nat.reduceAdd, Nat.reduceMul, Nat.reduceSub, Nat.reduceBEq, Nat.reduceGT, Nat.reduceLT, Int.reduceLE, Int.reduceLT, Int.reduceNeg, reduceCtorEq], by simp only [go_sem, ↓reduceIte, Nat.reduceEqDiff, Nat.reduceLeDiff, Nat.reduceAdd, Nat.reduceMul, Nat.reduceSub, Nat.reduceBEq, Nat.reduceGT, Nat.reduceLT, Int.reduceLE, Int.reduceLT, Int.reduceNeg, reduceCtorEq], by simp only [go_sem, ↓reduceIte, Nat.reduceEqDiff, Nat.reduceLeDiff, Nat.reduceAdd, Nat.reduceMul, Nat.reduceSub, Nat.reduceBEq, Nat.reduceGT, Nat.reduceLT, Int.reduceLE, Int.reduceLT, Int.reduceNeg, reduceCtorEq]; rfl, by omega, by simp [tailP], ho, (x1.trans (x2.mono x1.size)).mono hB⟩
  rintro ρ H3 ⟨i, qs, e5, e6, e7, e8, hi, hq, o3, x3⟩
  by_cases hlt : i < ps.length + 2
  · have c1 : (i : Int) < ((ps.length + 2 : Nat) : Int) := by omega
    have c0 : (0 : Int) ≤ i := by omega
    simp only [go_sem, ↓reduceIte, Nat.reduceEqDiff, Nat.reduceLeDiff, Nat.reduceAdd, Nat.reduceMul, Nat.reduceSub, Nat.reduceBEq, Nat.reduceGT, Nat.reduceLT, Int.reduceLE, Int.reduceLT, Int.reduceNeg, reduceCtorEq, c19_L0, e5, e6, e7, e8, c1]
    refine FunI.by (F39 (-7) (-8) _) ?_
    rintro _ H4 ⟨rfl, x4⟩
    obtain ⟨s1, s2, s3⟩ := prs_store (o3.ext x4) (i := i) (by omega) (-7, -8)
    have hge := (o3.blk rfl).1
    have hs := Nat.le_trans hB x3.size
    have x5 := s3.upto (B := B) (fun k hk => by cases hk; exact hge) (Nat.le_trans hs x4.size)
    simp only [go_sem, ↓reduceIte, Nat.reduceEqDiff, Nat.reduceLeDiff, Nat.reduceAdd, Nat.reduceMul, Nat.reduceSub, Nat.reduceBEq, Nat.reduceGT, Nat.reduceLT, Int.reduceLE, Int.reduceLT, Int.reduceNeg, reduceCtorEq, e6, e8, c0, c1, s1, Int.toNat_natCast, w64_id (n := (i : Int) + 1) (by omega) (by omega)]
    exact ⟨rfl, Hold.mk ⟨i + 1, qs.set i (-7, -8), by simp only [go_sem, ↓reduceIte, Nat.reduceEqDiff, Nat.reduceLeDiff, Nat.reduceAdd, Nat.reduceMul, Nat.reduceSub, Nat.reduceBEq, Nat.reduceGT, Nat.reduceLT, Int.reduceLE, Int.reduceLT, Int.reduceNeg, reduceCtorEq, e5], by simp only [go_sem, ↓reduceIte, Nat.reduceEqDiff, Nat.reduceLeDiff, Nat.reduceAdd, Nat.reduceMul, Nat.reduceSub, Nat.reduceBEq, Nat.reduceGT, Nat.reduceLT, Int.reduceLE, Int.reduceLT, Int.reduceNeg, reduceCtorEq, e6], by simp only [go_sem, ↓reduceIte, Nat.reduceEqDiff, Nat.reduceLeDiff, Nat.reduceAdd, Nat.reduceMul, Nat.reduceSub, Nat.reduceBEq, Nat.reduceGT, Nat.reduceLT, Int.reduceLE, Int.reduceLT, Int.reduceNeg, reduceCtorEq, e7], by simp only [go_sem, ↓reduceIte, Nat.reduceEqDiff, Nat.reduceLeDiff, Nat.reduceAdd, Nat.reduceMul, Nat.reduceSub, Nat.reduceBEq, Nat.reduceGT, Nat.reduceLT, Int.reduceLE, Int.reduceLT, Int.reduceNeg, reduceCtorEq]; rfl, by omega, by simpa using hq, s2, (x3.trans (x4.mono hs)).trans x5⟩, by omega⟩
  · have c1 : ¬ (i : Int) < ((ps.length + 2 : Nat) : Int) := by omega
    simp only [go_sem, ↓reduceIte, Nat.reduceEqDiff, Nat.reduceLeDiff, Nat.reduceAdd, Nat.reduceMul, Nat.reduceSub, Nat.reduceBEq, Nat.reduceGT, Nat.reduceLT, Int.reduceLE, Int.reduceLT, Int.reduceNeg, reduceCtorEq, c19_L0, e5, e6, e7, e8, c1]
    exact x3
end Go.Proofs.Ytcgejfmbhpmjfaa
