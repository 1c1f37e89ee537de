/- The two mergers beside each other: the laws' helper plays. -/
import Derived.Test.YtcgejfmbhpmjfaaVRefN
import Derived.Test.YtcgejfmbhpmjfaaVHelp
import Derived.Test.YtcgejfmbhpmjfaaVTold
set_option linter.unusedSimpArgs false
set_option linter.unusedVariables false
set_option maxRecDepth 20000
namespace Go.V
open Go
theorem Upto.but {H H' : Heap} (h : Ext H H') {g : Option Nat} : But g H H' := ⟨h.size, fun b hb _ => h.get b hb⟩
theorem But.ch {g : Option Nat} {H H' : Heap} (h : But g H H') : Ch (fun b => g = some b) (fun b => g = some b) H H' := ⟨h.size, fun _ h => .inl h, fun b hb hn => h.get b hb fun e => hn e.symm⟩
end Go.V
namespace Go.Proofs.Ytcgejfmbhpmjfaa
open Go Go.V
-- 28: pith/pithlaw11.plays
-- 14: pith/pithlaw11.room
-- 19: pith/pithlaw11.still
-- 23: pith/pithlaw11.num
-- 39: pith/pithlaw11.arc
-- 15: pith/pithref.SamePairs
-- 27: pith/pithref11.New
-- 35: (*pith/runs.Merger).Give
-- 40: (*pith/runs.Merger).Next
-- 37: (*pith/runs.Merger).Wants
-- 38: (*pith/runs.Merger).Left
-- 55: (*pith/pithref11.Merger).Give
-- 56: (*pith/pithref11.Merger).Next
-- 57: (*pith/pithref11.Merger).Wants
-- 58: (*pith/pithref11.Merger).Left
-- 3: int
-- 24: pith/api.Pair
-- 22: []api.Pair
-- 51: pithlaw11.Op
/-- The reference merger r holds the sources ss, in the blocks F. -/
def Rg (r : Value) (ss : List Src) (F : Nat → Prop) (H : Heap) : Prop := ∃ M S lvs, r = .pointer (some ⟨M, 0, none⟩) ∧ RefH H F M S lvs ss ∧ ∀ b, F b → b < H.size
theorem Rg.ext {r : Value} {ss : List Src} {F : Nat → Prop} {H H' : Heap} (h : Rg r ss F H) (hx : Ext H H') : Rg r ss F H' := by
  obtain ⟨M, S, lvs, rfl, h1, h3⟩ := h
  exact ⟨M, S, lvs, rfl, h1.ext hx, fun b hb => Nat.lt_of_lt_of_le (h3 b hb) hx.size⟩
theorem Rg.lt {r : Value} {ss : List Src} {F : Nat → Prop} {H : Heap} (h : Rg r ss F H) {b : Nat} (hb : F b) : b < H.size := by
  obtain ⟨M, S, lvs, rfl, h1, h3⟩ := h
  exact h3 b hb
theorem Rg.keep {r : Value} {ss : List Src} {F G G' : Nat → Prop} {H H' : Heap} (h : Rg r ss F H) (hc : Ch G G' H H') (hd : ∀ b, F b → ¬ G b) : Rg r ss F H' ∧ ∀ b, F b → ¬ G' b := by
  obtain ⟨M, S, lvs, rfl, h1, h3⟩ := h
  exact ⟨⟨M, S, lvs, rfl, h1.keep fun b hb => hc.get b (h3 b hb) (hd b hb), fun b hb => Nat.lt_of_lt_of_le (h3 b hb) hc.size⟩, fun b hb => hc.notin (h3 b hb) (hd b hb)⟩
theorem rg_new (k : Nat) (H : Heap) (hk : k ≤ 64) : Fun Try.prog 27 #[.int .i64 k] H (fun r H' => ∃ F M, r = .pointer (some ⟨M, 0, none⟩) ∧ Rg r (List.replicate k default) F H' ∧ (∀ b, F b → H.size ≤ b) ∧ Ext H H') := by
  refine (F27 k H hk).mono ?_
  rintro r H' ⟨F, M, S, lvs, rfl, h1, h2, h3⟩
  exact ⟨_, M, rfl, ⟨M, S, lvs, rfl, h1.tight, fun b hb => hb.2⟩, fun b hb => h2 b hb.1, h3⟩
theorem rg_give {r : Value} {ss : List Src} {F : Nat → Prop} {H : Heap} (h : Rg r ss F H) (i : Int) {v : Value} {l : List Pr} (hv' : Prs H v l) (hf : l ≠ [] → ∀ b, blk v = some b → ¬ F b) (last : Bool)
    (hb : ∀ j, j < ss.length → (sg ss j).l.length + l.length ≤ 4096093020000) :
    Fun Try.prog 55 #[r, .int .i64 i, v, .bool last] H (fun x H' => x = .int .i64 (giveS ss i l last).2 ∧ ∃ F', Rg r (giveS ss i l last).1 F' H' ∧ Ch F F' H H') := by
  obtain ⟨M, S, lvs, rfl, h1, h3⟩ := h
  refine (F55 h1 i hv' hf last hb).mono ?_
  rintro r H' ⟨rfl, F', lvs', k1, k3⟩
  exact ⟨rfl, _, ⟨M, S, lvs', rfl, k1.tight, fun b hb => hb.2⟩, ch_tight k3⟩
theorem rg_next {r : Value} {ss : List Src} {F : Nat → Prop} {H : Heap} (h : Rg r ss F H) :
    Fun Try.prog 56 #[r] H (fun x H' => ∃ o ss', x = .tuple #[pv (o.getD (0, 0)), .bool o.isSome] ∧ NextR ss o ss' ∧ ∃ F', Rg r ss' F' H' ∧ Ch F F' H H') := by
  obtain ⟨M, S, lvs, rfl, h1, h3⟩ := h
  refine (F56 h1).mono ?_
  rintro r H' ⟨o, ss', rfl, hn, F', lvs', k1, k3⟩
  exact ⟨o, ss', rfl, hn, _, ⟨M, S, lvs', rfl, k1.tight, fun b hb => hb.2⟩, ch_tight k3⟩
theorem rg_wants {r : Value} {ss : List Src} {F : Nat → Prop} {H : Heap} (h : Rg r ss F H) : Fun Try.prog 57 #[r] H (fun x H' => x = .int .i64 (wantsS ss) ∧ H = H') := by
  obtain ⟨M, S, lvs, rfl, h1, h3⟩ := h
  exact F57 h1
theorem rg_left {r : Value} {ss : List Src} {F : Nat → Prop} {H : Heap} (h : Rg r ss F H) (hb : ∀ i, i < ss.length → (sg ss i).l.length ≤ 8796093020000) : Fun Try.prog 58 #[r] H (fun x H' => x = .int .i64 (leftS ss) ∧ H = H') := by
  obtain ⟨M, S, lvs, rfl, h1, h3⟩ := h
  exact F58 h1 hb
theorem Room.keep {H H' : Heap} {B : Nat} {v : Value} {ps : List Pr} (h : Room H B v ps) (hk : ∀ g, blk v = some g → H'[g]? = H[g]?) : Room H' B v ps := by
  obtain ⟨g, cap, rfl, hc, ho⟩ := h
  exact ⟨g, cap, rfl, hc, ho.keep fun b hb => hk b hb⟩
theorem Room.blk' {H : Heap} {B : Nat} {v : Value} {ps : List Pr} (h : Room H B v ps) {g : Nat} (hg : blk v = some g) : B ≤ g ∧ g < H.size := ⟨(h.own.blk hg).1, (h.own.blk hg).2.1⟩
theorem prs_keep {H H' : Heap} {v : Value} {l : List Pr} (h : Prs H v l) (hk : l ≠ [] → ∀ b, blk v = some b → b < H.size → H'[b]? = H[b]?) : Prs H' v l := by
  by_cases hl : l = []
  · subst hl
    obtain ⟨a, len, cap, rfl, hc, hl, _⟩ := h
    exact ⟨a, len, cap, rfl, hc, hl, .inl (by simp [cp] at hl; omega)⟩
  · exact Sl.keepB h (hk hl)
theorem giveS_len {ss : List Src} {i : Int} {l : List Pr} {b : Bool} : (giveS ss i l b).1.length = ss.length ∧ ∀ j, j < ss.length → (sg (giveS ss i l b).1 j).l.length ≤ (sg ss j).l.length + l.length := by
  unfold giveS
  split
  · exact ⟨rfl, fun _ _ => Nat.le_add_right _ _⟩
  · split
    · exact ⟨rfl, fun _ _ => Nat.le_add_right _ _⟩
    · rename_i h1 h2
      refine ⟨by simp, fun j hj => ?_⟩
      rw [sg_set (by omega)]
      split
      · rename_i hji
        subst hji
        unfold gave
        simp
      · exact Nat.le_add_right _ _
set_option maxHeartbeats 800000 in
theorem still_but (v u : Value) (ps : List Pr) (H : Heap) (B : Nat) (hv : Room H B v ps) (hu : Prs H u ps) (hl : ps.length ≤ 4096093020000) :
    Fun Try.prog 19 #[v, u] H (fun r H' => r = .bool true ∧ But (blk v) H H') := by
  have hvp := hv.prs
  obtain ⟨g, cap, rfl, hc, ho⟩ := hv
  obtain ⟨a, c, rfl⟩ := prs_form hu
  refine fun_of mixed (args := [_, _]) Try.func19 Try.ntmps19 b19 r19 rfl ?_
  simp only [go_sem, ↓reduceIte, Nat.reduceEqDiff, Nat.reduceLeDiff, Nat.reduceAdd, Nat.reduceMul, Nat.reduceSub, Nat.reduceBEq, Nat.reduceGT, Nat.reduceLT, Int.reduceLE, Int.reduceLT, Int.reduceNeg, reduceCtorEq]
  refine FunI.by (F15 _ _ ps ps H hvp hu (by omega)) ?_
  rintro _ _ ⟨rfl, rfl⟩
  have w2 : IntKind.i64.wrap ((ps.length : Int) + 2) = ((ps.length + 2 : Nat) : Int) := by rw [w64_id (by omega) (by omega)]; omega
  have w1 : IntKind.i64.wrap ((ps.length : Int) + 1) = ((ps.length + 1 : Nat) : Int) := by rw [w64_id (by omega) (by omega)]; omega
  have z0 : (0 : Int) ≤ ((ps.length + 2 : Nat) : Int) := by omega
  have z1 : ((ps.length + 2 : Nat) : Int) ≤ cap := by omega
  have z2 : (0 : Int) ≤ ps.length := by omega
  have z3 : (ps.length : Int) < ((ps.length + 2 : Nat) : Int) := by omega
  have z4 : (0 : Int) ≤ ((ps.length + 1 : Nat) : Int) := by omega
  have z5 : ((ps.length + 1 : Nat) : Int) < ((ps.length + 2 : Nat) : Int) := by omega
  obtain ⟨p1, p2⟩ := prs_get0 (prs_own ho) (i := ps.length) (by simp [tailP])
  obtain ⟨p3, p4⟩ := prs_get0 (prs_own ho) (i := ps.length + 1) (by simp [tailP])
  have q1 : (ps ++ tailP).getD ps.length (0, 0) = (201, 202) := by simp [tailP]
  have q2 : (ps ++ tailP).getD (ps.length + 1) (0, 0) = (203, 204) := by simp [tailP]
  rw [q1] at p1 p2
  rw [q2] at p3 p4
  simp only [go_sem, ↓reduceIte, Nat.reduceEqDiff, Nat.reduceLeDiff, Nat.reduceAdd, Nat.reduceMul, Nat.reduceSub, Nat.reduceBEq, Nat.reduceGT, Nat.reduceLT, Int.reduceLE, Int.reduceLT, Int.reduceNeg, reduceCtorEq, w1, w2, z0, z1, z2, z3, z4, z5, p1, p2, p3, p4, Int.toNat_natCast, Option.bind_some, decide_true]
  refine FunI.by (F39 201 202 _) ?_
  rintro _ H1 ⟨rfl, x1⟩
  simp only [go_sem, ↓reduceIte, Nat.reduceEqDiff, Nat.reduceLeDiff, Nat.reduceAdd, Nat.reduceMul, Nat.reduceSub, Nat.reduceBEq, Nat.reduceGT, Nat.reduceLT, Int.reduceLE, Int.reduceLT, Int.reduceNeg, reduceCtorEq]
  refine ⟨x1, ?_⟩
  refine RunI.by (eq_pr _ _ (201, 202) (201, 202) H1) ?_
  rintro _ _ ⟨rfl, rfl⟩
  replace ho := ho.ext x1
  simp only [go_sem, ↓reduceIte, Nat.reduceEqDiff, Nat.reduceLeDiff, Nat.reduceAdd, Nat.reduceMul, Nat.reduceSub, Nat.reduceBEq, Nat.reduceGT, Nat.reduceLT, Int.reduceLE, Int.reduceLT, Int.reduceNeg, reduceCtorEq, w1, w2, z0, z1, z2, z3, z4, z5, p1, p2, p3, p4, Int.toNat_natCast, Option.bind_some, decide_true]
  refine ⟨x1, ?_⟩
  refine FunI.by (F39 203 204 _) ?_
  rintro _ H2 ⟨rfl, x2⟩
  simp only [go_sem, ↓reduceIte, Nat.reduceEqDiff, Nat.reduceLeDiff, Nat.reduceAdd, Nat.reduceMul, Nat.reduceSub, Nat.reduceBEq, Nat.reduceGT, Nat.reduceLT, Int.reduceLE, Int.reduceLT, Int.reduceNeg, reduceCtorEq, p3, p4, z2, z4, z5, w1, Option.bind_some, Int.toNat_natCast]
  refine ⟨x1.trans (x2.mono x1.size), ?_⟩
  refine RunI.by (eq_pr _ _ (203, 204) (203, 204) H2) ?_
  rintro _ _ ⟨rfl, rfl⟩
  replace ho := ho.ext x2
  simp only [go_sem, ↓reduceIte, Nat.reduceEqDiff, Nat.reduceLeDiff, Nat.reduceAdd, Nat.reduceMul, Nat.reduceSub, Nat.reduceBEq, Nat.reduceGT, Nat.reduceLT, Int.reduceLE, Int.reduceLT, Int.reduceNeg, reduceCtorEq, decide_true]
  refine ⟨x1.trans (x2.mono x1.size), ?_⟩
  refine LoopI.by mixed (fun ρ H' => ∃ (i : Nat) (qs : List Pr), ρ 5 = .bool true ∧ ρ 6 = .slice (some ⟨g, 0, none⟩) (ps.length + 2) cap ∧ ρ 7 = .bool true ∧ ρ 8 = .int .i64 i ∧ i ≤ ps.length + 2 ∧ qs.length = ps.length + 2 ∧ Own H' B 24 2 (.slice (some ⟨g, 0, none⟩) (ps.length + 2) cap) (cp qs) ∧ But (some g) H H') (fun ρ _ => ps.length + 2 - (iof (ρ 8)).toNat) ?_ ?_
  · exact ⟨0, ps ++ tailP, by simp only [go_sem, ↓reduceIte, Nat.reduceEqDiff, Nat.reduceLeDiff, Nat.reduceAdd, Nat.reduceMul, Nat.reduceSub, Nat.reduceBEq, Nat.reduceGT, Nat.reduceLT, Int.reduceLE, Int.reduceLT, Int.reduceNeg, reduceCtorEq], by simp only [go_sem, ↓reduceIte, Nat.reduceEqDiff, Nat.reduceLeDiff, Nat.reduceAdd, Nat.reduceMul, Nat.reduceSub, Nat.reduceBEq, Nat.reduceGT, Nat.reduceLT, Int.reduceLE, Int.reduceLT, Int.reduceNeg, reduceCtorEq], by simp only [go_sem, ↓reduceIte, Nat.reduceEqDiff, Nat.reduceLeDiff, Nat.reduceAdd, Nat.reduceMul, Nat.reduceSub, Nat.reduceBEq, Nat.reduceGT, Nat.reduceLT, Int.reduceLE, Int.reduceLT, Int.reduceNeg, reduceCtorEq], by simp only [go_sem, ↓reduceIte, Nat.reduceEqDiff, Nat.reduceLeDiff, Nat.reduceAdd, Nat.reduceMul, Nat.reduceSub, Nat.reduceBEq, Nat.reduceGT, Nat.reduceLT, Int.reduceLE, Int.reduceLT, Int.reduceNeg, reduceCtorEq]; rfl, by omega, by simp [tailP], ho, Upto.but (x1.trans (x2.mono x1.size))⟩
  rintro ρ H3 ⟨i, qs, e5, e6, e7, e8, hi, hq, o3, x3⟩
  by_cases hlt : i < ps.length + 2
  · have c1 : (i : Int) < ((ps.length + 2 : Nat) : Int) := by omega
    have c0 : (0 : Int) ≤ i := by omega
    simp only [go_sem, ↓reduceIte, Nat.reduceEqDiff, Nat.reduceLeDiff, Nat.reduceAdd, Nat.reduceMul, Nat.reduceSub, Nat.reduceBEq, Nat.reduceGT, Nat.reduceLT, Int.reduceLE, Int.reduceLT, Int.reduceNeg, reduceCtorEq, c19_L0, e5, e6, e7, e8, c1]
    refine FunI.by (F39 (-7) (-8) _) ?_
    rintro _ H4 ⟨rfl, x4⟩
    obtain ⟨s1, s2, s3⟩ := prs_store (o3.ext x4) (i := i) (by omega) (-7, -8)
    simp only [go_sem, ↓reduceIte, Nat.reduceEqDiff, Nat.reduceLeDiff, Nat.reduceAdd, Nat.reduceMul, Nat.reduceSub, Nat.reduceBEq, Nat.reduceGT, Nat.reduceLT, Int.reduceLE, Int.reduceLT, Int.reduceNeg, reduceCtorEq, e6, e8, c0, c1, s1, Int.toNat_natCast, w64_id (n := (i : Int) + 1) (by omega) (by omega)]
    exact ⟨rfl, Hold.mk ⟨i + 1, qs.set i (-7, -8), by simp only [go_sem, ↓reduceIte, Nat.reduceEqDiff, Nat.reduceLeDiff, Nat.reduceAdd, Nat.reduceMul, Nat.reduceSub, Nat.reduceBEq, Nat.reduceGT, Nat.reduceLT, Int.reduceLE, Int.reduceLT, Int.reduceNeg, reduceCtorEq, e5], by simp only [go_sem, ↓reduceIte, Nat.reduceEqDiff, Nat.reduceLeDiff, Nat.reduceAdd, Nat.reduceMul, Nat.reduceSub, Nat.reduceBEq, Nat.reduceGT, Nat.reduceLT, Int.reduceLE, Int.reduceLT, Int.reduceNeg, reduceCtorEq, e6], by simp only [go_sem, ↓reduceIte, Nat.reduceEqDiff, Nat.reduceLeDiff, Nat.reduceAdd, Nat.reduceMul, Nat.reduceSub, Nat.reduceBEq, Nat.reduceGT, Nat.reduceLT, Int.reduceLE, Int.reduceLT, Int.reduceNeg, reduceCtorEq, e7], by simp only [go_sem, ↓reduceIte, Nat.reduceEqDiff, Nat.reduceLeDiff, Nat.reduceAdd, Nat.reduceMul, Nat.reduceSub, Nat.reduceBEq, Nat.reduceGT, Nat.reduceLT, Int.reduceLE, Int.reduceLT, Int.reduceNeg, reduceCtorEq]; rfl, by omega, by simpa using hq, s2, (x3.trans (Upto.but x4)).trans s3⟩, by omega⟩
  · have c1 : ¬ (i : Int) < ((ps.length + 2 : Nat) : Int) := by omega
    simp only [go_sem, ↓reduceIte, Nat.reduceEqDiff, Nat.reduceLeDiff, Nat.reduceAdd, Nat.reduceMul, Nat.reduceSub, Nat.reduceBEq, Nat.reduceGT, Nat.reduceLT, Int.reduceLE, Int.reduceLT, Int.reduceNeg, reduceCtorEq, c19_L0, e5, e6, e7, e8, c1]
    exact x3
set_option maxHeartbeats 1600000 in
theorem F28 {m r : Value} {ss : List Src} {F G : Nat → Prop} {H : Heap} (hm : Mg m ss F H) (hr : Rg r ss G H) (hd : ∀ b, F b → ¬ G b) (kind i : Int) {v : Value} {l : List Pr} (hv : Prs H v l) (hl : l.length ≤ 3000) (hvx : l ≠ [] → ∀ b, blk v = some b → ¬ F b ∧ ¬ G b) (last other : Bool) (hb : ∀ j, j < ss.length → (sg ss j).l.length ≤ 4000000) :
    Fun Try.prog 28 #[m, r, .agg #[.int .i64 kind, .int .i64 i, v, .bool last, .bool other]] H (fun x H' => x = .bool true ∧ ∃ ss' F' G', Mg m ss' F' H' ∧ Rg r ss' G' H' ∧ (∀ b, F' b → ¬ G' b) ∧ ss'.length = ss.length ∧ (∀ j, j < ss.length → (sg ss' j).l.length ≤ (sg ss j).l.length + 3000) ∧ Ch (fun b => F b ∨ G b) (fun b => F' b ∨ G' b) H H') := by
  obtain ⟨a, c, rfl⟩ := prs_form hv
  obtain ⟨M, Cb, S, lvs, hhv, hp, hm0, _⟩ := id hm
  subst hm0
  obtain ⟨RM, RS, rlvs, hr0, _⟩ := id hr
  subst hr0
  refine fun_of mixed (args := [_, _, _]) Try.func28 Try.ntmps28 b28 r28 rfl ?_
  simp only [go_sem, ↓reduceIte, Nat.reduceEqDiff, Nat.reduceLeDiff, Nat.reduceAdd, Nat.reduceMul, Nat.reduceSub, Nat.reduceBEq, Nat.reduceGT, Nat.reduceLT, Int.reduceLE, Int.reduceLT, Int.reduceNeg, reduceCtorEq]
  obtain ⟨H0, hH0⟩ : ∃ H0, H0 = Array.push H (Obj.cells #[Value.int .i64 kind, Value.int .i64 i, Value.slice a l.length c, Value.bool last, Value.bool other] 51) := ⟨_, rfl⟩
  have x0 : Ext H H0 := by rw [hH0]; exact Ext.push _
  have co : H0[H.size]? = some (Obj.cells #[Value.int .i64 kind, Value.int .i64 i, Value.slice a l.length c, Value.bool last, Value.bool other] 51) := by rw [hH0]; exact push_new
  have lo : H.size < H0.size := by rw [hH0]; simp
  rw [← hH0]
  clear hH0
  have nF : ¬ F H.size := fun hf => Nat.lt_irrefl _ (hm.lt hf)
  have nG : ¬ G H.size := fun hf => Nat.lt_irrefl _ (hr.lt hf)
  have mg := hm.ext x0
  have rg := hr.ext x0
  have hv0 := prs_ext hv x0
  by_cases k1 : kind = 1
  · refine ⟨fun _ => ?_, fun h => absurd k1 h⟩
    refine FunI.by (F14 _ l _ hv0 (by omega)) ?_
    rintro v1 H1 ⟨om, x1⟩
    have co1 := (x1.get _ lo).trans co
    have lo1 := Nat.lt_of_lt_of_le lo x1.size
    have g1 : hget H1 H.size 1 = some (.int .i64 i) := by rw [hget_cells co1]; rfl
    have g3 : hget H1 H.size 3 = some (.bool last) := by rw [hget_cells co1]; rfl
    have hmF : ∀ b, blk v1 = some b → ¬ F b := fun b hb hf => by
      have := (om.blk' hb).1
      have := mg.lt hf
      omega
    have hmG : ∀ b, blk v1 = some b → ¬ G b := fun b hb hf => by
      have := (om.blk' hb).1
      have := rg.lt hf
      omega
    replace mg := mg.ext x1
    replace rg := rg.ext x1
    obtain ⟨a1, c1, rfl⟩ := prs_form om.prs
    simp only [go_sem, ↓reduceIte, Nat.reduceEqDiff, Nat.reduceLeDiff, Nat.reduceAdd, Nat.reduceMul, Nat.reduceSub, Nat.reduceBEq, Nat.reduceGT, Nat.reduceLT, Int.reduceLE, Int.reduceLT, Int.reduceNeg, reduceCtorEq, g1, g3]
    refine FunI.by (mg_give mg i om.prs hmF last (fun j hj => by have := hb j hj; omega)) ?_
    rintro _ H2 ⟨rfl, F2, mg2, ch2⟩
    obtain ⟨rg2, hd2⟩ := rg.keep ch2 (fun b h1 h2 => hd b h2 h1)
    have co2 := ch2.cell co1 nF
    have lo2 := Nat.lt_of_lt_of_le lo1 ch2.size
    have g1 : hget H2 H.size 1 = some (.int .i64 i) := by rw [hget_cells co2]; rfl
    have g2 : hget H2 H.size 2 = some (.slice a l.length c) := by rw [hget_cells co2]; rfl
    have g3 : hget H2 H.size 3 = some (.bool last) := by rw [hget_cells co2]; rfl
    have hv2 : Prs H2 (.slice a l.length c) l := prs_keep (prs_ext hv0 x1) fun hl b hb hlt => ch2.get b hlt (hvx hl b hb).1
    have om2 := om.keep fun g hg => ch2.get g (om.blk' hg).2 (hmF g hg)
    simp only [go_sem, ↓reduceIte, Nat.reduceEqDiff, Nat.reduceLeDiff, Nat.reduceAdd, Nat.reduceMul, Nat.reduceSub, Nat.reduceBEq, Nat.reduceGT, Nat.reduceLT, Int.reduceLE, Int.reduceLT, Int.reduceNeg, reduceCtorEq, g1, g2, g3]
    refine FunI.by (rg_give rg2 i hv2 (fun hl b hb => (hvx hl b hb).2) last (fun j hj => by have := hb j hj; omega)) ?_
    rintro _ H3 ⟨rfl, G3, rg3, ch3⟩
    obtain ⟨mg3, hd3⟩ := mg2.keep ch3 (fun b h1 h2 => hd2 b h2 h1)
    have co3 := ch3.cell co2 nG
    have g2 : hget H3 H.size 2 = some (.slice a l.length c) := by rw [hget_cells co3]; rfl
    have hv3 : Prs H3 (.slice a l.length c) l := prs_keep hv2 fun hl b hb hlt => ch3.get b hlt (hvx hl b hb).2
    have om3 := om2.keep fun g hg => ch3.get g (om2.blk' hg).2 (hmG g hg)
    have hmF2 : ∀ b, blk (.slice a1 l.length c1) = some b → ¬ F2 b := fun b hb => ch2.notin (om.blk' hb).2 (hmF b hb)
    have hmG3 : ∀ b, blk (.slice a1 l.length c1) = some b → ¬ G3 b := fun b hb => ch3.notin (om2.blk' hb).2 (hmG b hb)
    simp only [go_sem, ↓reduceIte, Nat.reduceEqDiff, Nat.reduceLeDiff, Nat.reduceAdd, Nat.reduceMul, Nat.reduceSub, Nat.reduceBEq, Nat.reduceGT, Nat.reduceLT, Int.reduceLE, Int.reduceLT, Int.reduceNeg, reduceCtorEq, g2]
    refine FunI.by (still_but _ _ l _ _ om3 hv3 (by omega)) ?_
    rintro _ H4 ⟨rfl, bu⟩
    have ch4 := bu.ch
    obtain ⟨mg4, _⟩ := mg3.keep ch4 (fun b h1 h2 => hmF2 b h2 h1)
    obtain ⟨rg4, _⟩ := rg3.keep ch4 (fun b h1 h2 => hmG3 b h2 h1)
    simp only [go_sem, ↓reduceIte, Nat.reduceEqDiff, Nat.reduceLeDiff, Nat.reduceAdd, Nat.reduceMul, Nat.reduceSub, Nat.reduceBEq, Nat.reduceGT, Nat.reduceLT, Int.reduceLE, Int.reduceLT, Int.reduceNeg, reduceCtorEq]
    refine FunI.by (F23 _ _) ?_
    rintro _ _ ⟨rfl, rfl⟩
    simp only [go_sem, ↓reduceIte, Nat.reduceEqDiff, Nat.reduceLeDiff, Nat.reduceAdd, Nat.reduceMul, Nat.reduceSub, Nat.reduceBEq, Nat.reduceGT, Nat.reduceLT, Int.reduceLE, Int.reduceLT, Int.reduceNeg, reduceCtorEq, decide_true]
    have hbs : ∀ b, blk (.slice a1 l.length c1) = some b → H.size ≤ b := fun b hb => Nat.le_trans x0.size (om.blk' hb).1
    have hl' := giveS_len (ss := ss) (i := i) (l := l) (b := last)
    refine ⟨_, F2, G3, mg4, rg4, hd3, hl'.1, fun j hj => by have := hl'.2 j hj; omega, ?_⟩
    have hs1 : H.size ≤ H1.size := Nat.le_trans x0.size x1.size
    refine ⟨Nat.le_trans hs1 (Nat.le_trans ch2.size (Nat.le_trans ch3.size ch4.size)), fun b hb' => ?_, fun b hb' hn => ?_⟩
    · rcases hb' with hb' | hb'
      · rcases ch2.old b hb' with e | e
        · exact .inl (.inl e)
        · exact .inr (Nat.le_trans hs1 e)
      · rcases ch3.old b hb' with e | e
        · exact .inl (.inr e)
        · exact .inr (Nat.le_trans hs1 (Nat.le_trans ch2.size e))
    · have hb1 : b < H1.size := Nat.lt_of_lt_of_le hb' hs1
      have hb2 := Nat.lt_of_lt_of_le hb1 ch2.size
      have hb3 := Nat.lt_of_lt_of_le hb2 ch3.size
      rw [ch4.get b hb3 (fun e => by have := hbs b e; omega), ch3.get b hb2 (fun e => hn (.inr e)), ch2.get b hb1 (fun e => hn (.inl e)), x1.get b (Nat.lt_of_lt_of_le hb' x0.size), x0.get b hb']
  · refine ⟨fun h => absurd h k1, fun _ => ?_⟩
    by_cases k2 : kind = 2
    · refine ⟨fun _ => ?_, fun h => absurd k2 h⟩
      refine FunI.by (mg_next mg (fun j hj => by have := hb j hj; omega)) ?_
      rintro _ H2 ⟨o, s2, rfl, hn, F2, mg2, ch2⟩
      obtain ⟨rg2, hd2⟩ := rg.keep ch2 (fun b h1 h2 => hd b h2 h1)
      simp only [go_sem, ↓reduceIte, Nat.reduceEqDiff, Nat.reduceLeDiff, Nat.reduceAdd, Nat.reduceMul, Nat.reduceSub, Nat.reduceBEq, Nat.reduceGT, Nat.reduceLT, Int.reduceLE, Int.reduceLT, Int.reduceNeg, reduceCtorEq, pv]
      refine ⟨rfl, hcan_of push_new (by simp), ?_⟩
      rw [hput_push2]
      obtain ⟨H3, hH3⟩ : ∃ G, G = Array.push H2 (Obj.cells #[Value.int .i64 (o.getD (0, 0)).1, Value.int .i64 (o.getD (0, 0)).2] 24) := ⟨_, rfl⟩
      have x3 : Ext H2 H3 := by rw [hH3]; exact Ext.push _
      have c3 : H3[H2.size]? = some (Obj.cells #[Value.int .i64 (o.getD (0, 0)).1, Value.int .i64 (o.getD (0, 0)).2] 24) := by rw [hH3]; exact push_new
      have l3 : H2.size < H3.size := by rw [hH3]; simp
      rw [← hH3]
      clear hH3
      have nG3 : ¬ G H2.size := fun hf => Nat.lt_irrefl _ (rg2.lt hf)
      replace mg2 := mg2.ext x3
      replace rg2 := rg2.ext x3
      refine FunI.by (rg_next rg2) ?_
      rintro _ H4 ⟨o', s2', rfl, hn', G4, rg4, ch4⟩
      obtain ⟨rfl, rfl⟩ := nextR_unique hn hn'
      obtain ⟨mg4, hd4⟩ := mg2.keep ch4 (fun b h1 h2 => hd2 b h2 h1)
      have c4 := ch4.cell c3 nG3
      have l4 := Nat.lt_of_lt_of_le l3 ch4.size
      simp only [go_sem, ↓reduceIte, Nat.reduceEqDiff, Nat.reduceLeDiff, Nat.reduceAdd, Nat.reduceMul, Nat.reduceSub, Nat.reduceBEq, Nat.reduceGT, Nat.reduceLT, Int.reduceLE, Int.reduceLT, Int.reduceNeg, reduceCtorEq, pv]
      refine ⟨rfl, hcan_of push_new (by simp), ?_⟩
      rw [hput_push2]
      obtain ⟨H5, hH5⟩ : ∃ G, G = Array.push H4 (Obj.cells #[Value.int .i64 (o.getD (0, 0)).1, Value.int .i64 (o.getD (0, 0)).2] 24) := ⟨_, rfl⟩
      have x5 : Ext H4 H5 := by rw [hH5]; exact Ext.push _
      have c5 : H5[H4.size]? = some (Obj.cells #[Value.int .i64 (o.getD (0, 0)).1, Value.int .i64 (o.getD (0, 0)).2] 24) := by rw [hH5]; exact push_new
      have c4' : H5[H2.size]? = some (Obj.cells #[Value.int .i64 (o.getD (0, 0)).1, Value.int .i64 (o.getD (0, 0)).2] 24) := (x5.get _ l4).trans c4
      rw [← hH5]
      clear hH5
      have ga0 : hget H5 H2.size 0 = some (.int .i64 (o.getD (0, 0)).1) := by rw [hget_cells c4']; rfl
      have ga1 : hget H5 H2.size 1 = some (.int .i64 (o.getD (0, 0)).2) := by rw [hget_cells c4']; rfl
      have gb0 : hget H5 H4.size 0 = some (.int .i64 (o.getD (0, 0)).1) := by rw [hget_cells c5]; rfl
      have gb1 : hget H5 H4.size 1 = some (.int .i64 (o.getD (0, 0)).2) := by rw [hget_cells c5]; rfl
      simp only [go_sem, ↓reduceIte, Nat.reduceEqDiff, Nat.reduceLeDiff, Nat.reduceAdd, Nat.reduceMul, Nat.reduceSub, Nat.reduceBEq, Nat.reduceGT, Nat.reduceLT, Int.reduceLE, Int.reduceLT, Int.reduceNeg, reduceCtorEq, ga0, ga1, gb0, gb1, Option.bind_some]
      refine RunI.by (eq_pr _ _ (o.getD (0, 0)) (o.getD (0, 0)) H5) ?_
      rintro _ _ ⟨rfl, rfl⟩
      simp only [go_sem, ↓reduceIte, Nat.reduceEqDiff, Nat.reduceLeDiff, Nat.reduceAdd, Nat.reduceMul, Nat.reduceSub, Nat.reduceBEq, Nat.reduceGT, Nat.reduceLT, Int.reduceLE, Int.reduceLT, Int.reduceNeg, reduceCtorEq, decide_true, beq_self_eq_true]
      have bnd := nextR_len hn
      refine ⟨s2, F2, G4, mg4.ext x5, rg4.ext x5, hd4, bnd.1, fun j hj => Nat.le_trans (bnd.2 j hj) (Nat.le_add_right _ _), ?_⟩
      have hs0 := x0.size
      refine ⟨Nat.le_trans hs0 (Nat.le_trans ch2.size (Nat.le_trans x3.size (Nat.le_trans ch4.size x5.size))), fun b hb' => ?_, fun b hb' hnn => ?_⟩
      · rcases hb' with hb' | hb'
        · rcases ch2.old b hb' with e | e
          · exact .inl (.inl e)
          · exact .inr (Nat.le_trans hs0 e)
        · rcases ch4.old b hb' with e | e
          · exact .inl (.inr e)
          · exact .inr (Nat.le_trans hs0 (Nat.le_trans ch2.size (Nat.le_trans x3.size e)))
      · have hb1 : b < H0.size := Nat.lt_of_lt_of_le hb' hs0
        have hb2 := Nat.lt_of_lt_of_le hb1 ch2.size
        have hb3 := Nat.lt_of_lt_of_le hb2 x3.size
        have hb4 := Nat.lt_of_lt_of_le hb3 ch4.size
        rw [x5.get b hb4, ch4.get b hb3 (fun e => hnn (.inr e)), x3.get b hb2, ch2.get b hb1 (fun e => hnn (.inl e)), x0.get b hb']
    · refine ⟨fun h => absurd h k2, fun _ => ?_⟩
      refine FunI.by (mg_wants mg) ?_
      rintro _ H2 ⟨rfl, x2⟩
      replace mg := mg.ext x2
      replace rg := rg.ext x2
      simp only [go_sem, ↓reduceIte, Nat.reduceEqDiff, Nat.reduceLeDiff, Nat.reduceAdd, Nat.reduceMul, Nat.reduceSub, Nat.reduceBEq, Nat.reduceGT, Nat.reduceLT, Int.reduceLE, Int.reduceLT, Int.reduceNeg, reduceCtorEq]
      refine FunI.by (rg_wants rg) ?_
      rintro _ _ ⟨rfl, rfl⟩
      simp only [go_sem, ↓reduceIte, Nat.reduceEqDiff, Nat.reduceLeDiff, Nat.reduceAdd, Nat.reduceMul, Nat.reduceSub, Nat.reduceBEq, Nat.reduceGT, Nat.reduceLT, Int.reduceLE, Int.reduceLT, Int.reduceNeg, reduceCtorEq, decide_true]
      refine FunI.by (mg_left mg (fun j hj => by have := hb j hj; omega)) ?_
      rintro _ H3 ⟨rfl, x3⟩
      replace mg := mg.ext x3
      replace rg := rg.ext x3
      simp only [go_sem, ↓reduceIte, Nat.reduceEqDiff, Nat.reduceLeDiff, Nat.reduceAdd, Nat.reduceMul, Nat.reduceSub, Nat.reduceBEq, Nat.reduceGT, Nat.reduceLT, Int.reduceLE, Int.reduceLT, Int.reduceNeg, reduceCtorEq]
      refine FunI.by (rg_left rg (fun j hj => by have := hb j hj; omega)) ?_
      rintro _ _ ⟨rfl, rfl⟩
      simp only [go_sem, ↓reduceIte, Nat.reduceEqDiff, Nat.reduceLeDiff, Nat.reduceAdd, Nat.reduceMul, Nat.reduceSub, Nat.reduceBEq, Nat.reduceGT, Nat.reduceLT, Int.reduceLE, Int.reduceLT, Int.reduceNeg, reduceCtorEq, decide_true]
      exact ⟨ss, F, G, mg, rg, hd, rfl, fun j hj => Nat.le_add_right _ _, Ext.ch ((x0.trans (x2.mono x0.size)).trans (x3.mono (Nat.le_trans x0.size x2.size)))⟩
end Go.Proofs.Ytcgejfmbhpmjfaa
