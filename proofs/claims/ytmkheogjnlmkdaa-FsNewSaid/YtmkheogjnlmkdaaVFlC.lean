/- A step done to the file system; what it says against a plain list. -/
import Derived.Test.YtmkheogjnlmkdaaVFlB
set_option linter.unusedSimpArgs false
set_option linter.unusedVariables false
set_option maxRecDepth 20000
namespace Go.Proofs.Ytmkheogjnlmkdaa
open Go Go.V
-- 16: pith/pithlaw8.name
-- 22: pith/pithlaw8.num
-- 18: pith/pithlaw8.bytes
-- 14: pith/pithlaw8.does
-- 39: (*pith/fs.FS).Create
-- 20: (*pith/fs.FS).Append
-- 21: (*pith/fs.FS).Sync
-- 45: (*pith/fs.FS).Rename
-- 46: (*pith/fs.FS).Remove
-- 34: (*pith/fs.FS).SyncDir
-- 3: int
-- 5: uint8
-- 30: pithlaw8.Step
section
variable {H H' : Heap} {F F' : Nat → Prop} {b : Nat} {s : St}
theorem FsH.fresh (h : FsH H F b s) : H.size ∉ s.held := fun hm => by
  obtain ⟨_, _, _, _, _, h⟩ := h
  have := h.lt _ (h.hf _ hm).1; omega
set_option maxHeartbeats 1600000 in
theorem F14 (h : FsH H F b s) (ok : Ok s) (hn : s.ops < 1099511627776) (t : Stp) (hf : 0 ≤ t.fill ∧ t.fill < 256) :
    Fun Try.prog 14 #[ptrOf b, .agg #[.int .i64 t.kind, .int .i64 t.i, .int .i64 t.k, .int .i64 t.many, .int .u8 t.fill]] H (fun r H' => ∃ x, x ∉ s.held ∧ r = .int .i64 (doesS s t x).2 ∧ ∃ F', FsH H' F' b (doesS s t x).1 ∧ Ch F F' H H') := by
  refine fun_of mixed (args := [_, _]) Try.func14 Try.ntmps14 b14 r14 rfl ?_
  have x0 : Ext H (H.push (.cells #[.int .i64 t.kind, .int .i64 t.i, .int .i64 t.k, .int .i64 t.many, .int .u8 t.fill] 30)) := Ext.push _
  have st := StepH.box (H := H) t
  obtain ⟨k0, k1, k2, k3, k4, k5⟩ := st
  have hfr := h.fresh
  simp only [go_sem, ↓reduceIte, Nat.reduceEqDiff, Nat.reduceLeDiff, Nat.reduceAdd, Nat.reduceMul, Nat.reduceSub, Nat.reduceBEq, Nat.reduceGT, Nat.reduceLT, Int.reduceLE, Int.reduceLT, Int.reduceNeg, reduceCtorEq, k2, ptrOf]
  refine FunI.by (F16 t.i _) ?_
  rintro _ H1 ⟨rfl, x1⟩
  simp only [go_sem, ↓reduceIte, Nat.reduceEqDiff, Nat.reduceLeDiff, Nat.reduceAdd, Nat.reduceMul, Nat.reduceSub, Nat.reduceBEq, Nat.reduceGT, Nat.reduceLT, Int.reduceLE, Int.reduceLT, Int.reduceNeg, reduceCtorEq, hget_ext x1 k3]
  refine FunI.by (F16 t.k _) ?_
  rintro _ H2 ⟨rfl, x2⟩
  have hx2 : Ext H H2 := x0.trans ((x1.trans (x2.mono x1.size)).mono x0.size)
  have st2 := (StepH.box (H := H) t).ext (x1.trans (x2.mono x1.size))
  clear x0 x1 x2 k0 k1 k2 k3 k4 k5
  have h2 := h.ext hx2
  have hfr2 : H2.size ∉ s.held := h2.fresh
  obtain ⟨mb, lb, hb, pv, dv, p2⟩ := h2
  by_cases h1 : t.kind = 1
  · have ed : ∀ x, doesS s t x = createS s (nameS t.i) x := fun x => by unfold doesS; rw [if_pos h1]
    simp only [go_sem, ↓reduceIte, Nat.reduceEqDiff, Nat.reduceLeDiff, Nat.reduceAdd, Nat.reduceMul, Nat.reduceSub, Nat.reduceBEq, Nat.reduceGT, Nat.reduceLT, Int.reduceLE, Int.reduceLT, Int.reduceNeg, reduceCtorEq, st2.g0, h1, Int.reduceEq]
    refine FunI.by (F39 p2 ok hn (nameS t.i)) ?_
    rintro _ H3 ⟨x, hx, rfl, F3, h3, ch3⟩
    simp only [go_sem, ↓reduceIte, Nat.reduceEqDiff, Nat.reduceLeDiff, Nat.reduceAdd, Nat.reduceMul, Nat.reduceSub, Nat.reduceBEq, Nat.reduceGT, Nat.reduceLT, Int.reduceLE, Int.reduceLT, Int.reduceNeg, reduceCtorEq]
    refine FunI.by (F22 _ _) ?_
    rintro _ _ ⟨rfl, rfl⟩
    simp only [go_sem, ↓reduceIte, Nat.reduceEqDiff, Nat.reduceLeDiff, Nat.reduceAdd, Nat.reduceMul, Nat.reduceSub, Nat.reduceBEq, Nat.reduceGT, Nat.reduceLT, Int.reduceLE, Int.reduceLT, Int.reduceNeg, reduceCtorEq]
    exact ⟨x, hx, by rw [ed], F3, by rw [ed]; exact h3, hx2.ch.trans ch3⟩
  by_cases h2' : t.kind = 2
  · have ed : ∀ x, doesS s t x = appendS s (nameS t.i) (bytS t) := fun x => by unfold doesS; rw [if_neg h1, if_pos h2']
    simp only [go_sem, ↓reduceIte, Nat.reduceEqDiff, Nat.reduceLeDiff, Nat.reduceAdd, Nat.reduceMul, Nat.reduceSub, Nat.reduceBEq, Nat.reduceGT, Nat.reduceLT, Int.reduceLE, Int.reduceLT, Int.reduceNeg, reduceCtorEq, st2.g0, h2', Int.reduceEq, hgets5, Nat.zero_add, st2.g1, st2.g2, st2.g3, st2.g4, Option.bind_some]
    have hbl := bytS_le t
    have key := F18 t H2 hf
    rw [h2'] at key
    refine FunI.by key ?_
    rintro v H3 ⟨o3, x3⟩
    obtain ⟨a3, l3, cc3, rfl⟩ := Sl.form o3.sl
    simp only [go_sem, ↓reduceIte, Nat.reduceEqDiff, Nat.reduceLeDiff, Nat.reduceAdd, Nat.reduceMul, Nat.reduceSub, Nat.reduceBEq, Nat.reduceGT, Nat.reduceLT, Int.reduceLE, Int.reduceLT, Int.reduceNeg, reduceCtorEq]
    refine FunI.by (F20 (p2.ext x3) ok hn (nameS t.i) (xs := bytS t) o3.sl (by omega)) ?_
    rintro _ H4 ⟨rfl, F4, h4, ch4⟩
    simp only [go_sem, ↓reduceIte, Nat.reduceEqDiff, Nat.reduceLeDiff, Nat.reduceAdd, Nat.reduceMul, Nat.reduceSub, Nat.reduceBEq, Nat.reduceGT, Nat.reduceLT, Int.reduceLE, Int.reduceLT, Int.reduceNeg, reduceCtorEq]
    refine FunI.by (F22 _ _) ?_
    rintro _ _ ⟨rfl, rfl⟩
    simp only [go_sem, ↓reduceIte, Nat.reduceEqDiff, Nat.reduceLeDiff, Nat.reduceAdd, Nat.reduceMul, Nat.reduceSub, Nat.reduceBEq, Nat.reduceGT, Nat.reduceLT, Int.reduceLE, Int.reduceLT, Int.reduceNeg, reduceCtorEq]
    exact ⟨H.size, hfr, by rw [ed], F4, by rw [ed]; exact h4, hx2.ch.trans (x3.ch.trans ch4)⟩
  by_cases h3 : t.kind = 3
  · have ed : ∀ x, doesS s t x = syncS s (nameS t.i) := fun x => by unfold doesS; rw [if_neg h1, if_neg h2', if_pos h3]
    simp only [go_sem, ↓reduceIte, Nat.reduceEqDiff, Nat.reduceLeDiff, Nat.reduceAdd, Nat.reduceMul, Nat.reduceSub, Nat.reduceBEq, Nat.reduceGT, Nat.reduceLT, Int.reduceLE, Int.reduceLT, Int.reduceNeg, reduceCtorEq, st2.g0, h3, Int.reduceEq]
    refine FunI.by (F21 p2 ok hn (nameS t.i)) ?_
    rintro _ H4 ⟨rfl, F4, h4, ch4⟩
    simp only [go_sem, ↓reduceIte, Nat.reduceEqDiff, Nat.reduceLeDiff, Nat.reduceAdd, Nat.reduceMul, Nat.reduceSub, Nat.reduceBEq, Nat.reduceGT, Nat.reduceLT, Int.reduceLE, Int.reduceLT, Int.reduceNeg, reduceCtorEq]
    refine FunI.by (F22 _ _) ?_
    rintro _ _ ⟨rfl, rfl⟩
    simp only [go_sem, ↓reduceIte, Nat.reduceEqDiff, Nat.reduceLeDiff, Nat.reduceAdd, Nat.reduceMul, Nat.reduceSub, Nat.reduceBEq, Nat.reduceGT, Nat.reduceLT, Int.reduceLE, Int.reduceLT, Int.reduceNeg, reduceCtorEq]
    exact ⟨H.size, hfr, by rw [ed], F4, by rw [ed]; exact h4, hx2.ch.trans ch4⟩
  by_cases h4 : t.kind = 4
  · have ed : ∀ x, doesS s t x = renameS s (nameS t.i) (nameS t.k) := fun x => by unfold doesS; rw [if_neg h1, if_neg h2', if_neg h3, if_pos h4]
    simp only [go_sem, ↓reduceIte, Nat.reduceEqDiff, Nat.reduceLeDiff, Nat.reduceAdd, Nat.reduceMul, Nat.reduceSub, Nat.reduceBEq, Nat.reduceGT, Nat.reduceLT, Int.reduceLE, Int.reduceLT, Int.reduceNeg, reduceCtorEq, st2.g0, h4, Int.reduceEq]
    refine FunI.by (F45 p2 ok hn (nameS t.i) (nameS t.k)) ?_
    rintro _ H4 ⟨rfl, F4, h4, ch4⟩
    simp only [go_sem, ↓reduceIte, Nat.reduceEqDiff, Nat.reduceLeDiff, Nat.reduceAdd, Nat.reduceMul, Nat.reduceSub, Nat.reduceBEq, Nat.reduceGT, Nat.reduceLT, Int.reduceLE, Int.reduceLT, Int.reduceNeg, reduceCtorEq]
    refine FunI.by (F22 _ _) ?_
    rintro _ _ ⟨rfl, rfl⟩
    simp only [go_sem, ↓reduceIte, Nat.reduceEqDiff, Nat.reduceLeDiff, Nat.reduceAdd, Nat.reduceMul, Nat.reduceSub, Nat.reduceBEq, Nat.reduceGT, Nat.reduceLT, Int.reduceLE, Int.reduceLT, Int.reduceNeg, reduceCtorEq]
    exact ⟨H.size, hfr, by rw [ed], F4, by rw [ed]; exact h4, hx2.ch.trans ch4⟩
  by_cases h5 : t.kind = 5
  · have ed : ∀ x, doesS s t x = removeS s (nameS t.i) := fun x => by unfold doesS; rw [if_neg h1, if_neg h2', if_neg h3, if_neg h4, if_pos h5]
    simp only [go_sem, ↓reduceIte, Nat.reduceEqDiff, Nat.reduceLeDiff, Nat.reduceAdd, Nat.reduceMul, Nat.reduceSub, Nat.reduceBEq, Nat.reduceGT, Nat.reduceLT, Int.reduceLE, Int.reduceLT, Int.reduceNeg, reduceCtorEq, st2.g0, h5, Int.reduceEq]
    refine FunI.by (F46 p2 ok hn (nameS t.i)) ?_
    rintro _ H4 ⟨rfl, F4, h4, ch4⟩
    simp only [go_sem, ↓reduceIte, Nat.reduceEqDiff, Nat.reduceLeDiff, Nat.reduceAdd, Nat.reduceMul, Nat.reduceSub, Nat.reduceBEq, Nat.reduceGT, Nat.reduceLT, Int.reduceLE, Int.reduceLT, Int.reduceNeg, reduceCtorEq]
    refine FunI.by (F22 _ _) ?_
    rintro _ _ ⟨rfl, rfl⟩
    simp only [go_sem, ↓reduceIte, Nat.reduceEqDiff, Nat.reduceLeDiff, Nat.reduceAdd, Nat.reduceMul, Nat.reduceSub, Nat.reduceBEq, Nat.reduceGT, Nat.reduceLT, Int.reduceLE, Int.reduceLT, Int.reduceNeg, reduceCtorEq]
    exact ⟨H.size, hfr, by rw [ed], F4, by rw [ed]; exact h4, hx2.ch.trans ch4⟩
  by_cases h6 : t.kind = 6
  · have ed : ∀ x, doesS s t x = syncDirS s := fun x => by unfold doesS; rw [if_neg h1, if_neg h2', if_neg h3, if_neg h4, if_neg h5, if_pos h6]
    simp only [go_sem, ↓reduceIte, Nat.reduceEqDiff, Nat.reduceLeDiff, Nat.reduceAdd, Nat.reduceMul, Nat.reduceSub, Nat.reduceBEq, Nat.reduceGT, Nat.reduceLT, Int.reduceLE, Int.reduceLT, Int.reduceNeg, reduceCtorEq, st2.g0, h6, Int.reduceEq]
    refine FunI.by (F34 p2 ok hn) ?_
    rintro _ H4 ⟨rfl, F4, h4, ch4⟩
    simp only [go_sem, ↓reduceIte, Nat.reduceEqDiff, Nat.reduceLeDiff, Nat.reduceAdd, Nat.reduceMul, Nat.reduceSub, Nat.reduceBEq, Nat.reduceGT, Nat.reduceLT, Int.reduceLE, Int.reduceLT, Int.reduceNeg, reduceCtorEq]
    refine FunI.by (F22 _ _) ?_
    rintro _ _ ⟨rfl, rfl⟩
    simp only [go_sem, ↓reduceIte, Nat.reduceEqDiff, Nat.reduceLeDiff, Nat.reduceAdd, Nat.reduceMul, Nat.reduceSub, Nat.reduceBEq, Nat.reduceGT, Nat.reduceLT, Int.reduceLE, Int.reduceLT, Int.reduceNeg, reduceCtorEq]
    exact ⟨H.size, hfr, by rw [ed], F4, by rw [ed]; exact h4, hx2.ch.trans ch4⟩
  have ed : ∀ x, doesS s t x = (s, 0) := fun x => by unfold doesS; rw [if_neg h1, if_neg h2', if_neg h3, if_neg h4, if_neg h5, if_neg h6]
  simp only [go_sem, ↓reduceIte, Nat.reduceEqDiff, Nat.reduceLeDiff, Nat.reduceAdd, Nat.reduceMul, Nat.reduceSub, Nat.reduceBEq, Nat.reduceGT, Nat.reduceLT, Int.reduceLE, Int.reduceLT, Int.reduceNeg, reduceCtorEq, st2.g0, h1, h2', h3, h4, h5, h6]
  exact ⟨H.size, hfr, by rw [ed], F, by rw [ed]; exact ⟨_, _, _, _, _, p2⟩, hx2.ch⟩
end
end Go.Proofs.Ytmkheogjnlmkdaa
