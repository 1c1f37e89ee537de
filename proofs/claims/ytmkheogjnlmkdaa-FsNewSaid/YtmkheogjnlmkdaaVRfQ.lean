/- FsNew. -/
import Derived.Test.YtmkheogjnlmkdaaVRfO
import Derived.Test.YtmkheogjnlmkdaaVFlG
set_option linter.unusedSimpArgs false
set_option linter.unusedVariables false
set_option maxRecDepth 20000
namespace Go.Proofs.Ytmkheogjnlmkdaa
open Go Go.V
-- 5: pith/pithlaw8.FsNew
-- 12: pith/fs.New
-- 26: pith/pithref8.New
-- 27: (pith/pithlaw8.both).tells
-- 11: pith/pithlaw8.first
-- 51: pithlaw8.both
theorem fresh_okR (room : Int) : OkR (freshR room) := by
  refine ⟨by simp [freshR], by simp [freshR], by simp [freshR], by simp [freshR], ?_, by simp [freshR], by simp [freshR], ?_, ?_, ?_⟩
  · intro es h; simp [freshR] at h; subst h; simp
  · intro es h; simp [freshR] at h; subst h; simp
  · intro es h; simp [freshR] at h
  · intro es h; simp [freshR] at h
theorem names_none {ns : List Nm} (h : IsNames (fun _ => none) ns) : ns = [] := by
  cases ns with
  | nil => rfl
  | cons n l => exact absurd rfl ((h.2 n).1 List.mem_cons_self)
theorem fresh_tells (room : Int) : Tells (freshS room) (freshR room) := by
  refine ⟨fun ns h => ?_, fun ns h => ?_, rfl, rfl, rfl, rfl, rfl⟩
  · have := names_none (ns := ns) h
    rw [this]; rfl
  · have := names_none (ns := ns) h
    rw [this]; rfl
set_option maxHeartbeats 1600000 in
theorem F5 (room : Int) (H : Heap) : Fun Try.prog 5 #[.int .i64 room] H (fun r H' => r = .bool true ∧ Ext H H') := by
  refine fun_of mixed (args := [_]) Try.func5 Try.ntmps5 b5 r5 rfl ?_
  simp only [go_sem, ↓reduceIte, Nat.reduceEqDiff, Nat.reduceLeDiff, Nat.reduceAdd, Nat.reduceMul, Nat.reduceSub, Nat.reduceBEq, Nat.reduceGT, Nat.reduceLT, Int.reduceLE, Int.reduceLT, Int.reduceNeg, reduceCtorEq]
  refine FunI.by (F11 H) ?_
  rintro _ H1 ⟨rfl, x1⟩
  simp only [go_sem, ↓reduceIte, Nat.reduceEqDiff, Nat.reduceLeDiff, Nat.reduceAdd, Nat.reduceMul, Nat.reduceSub, Nat.reduceBEq, Nat.reduceGT, Nat.reduceLT, Int.reduceLE, Int.reduceLT, Int.reduceNeg, reduceCtorEq]
  refine FunI.by (F12 room H1 trivial) ?_
  rintro v2 H2 ⟨x2, hv2⟩
  simp only [go_sem, ↓reduceIte, Nat.reduceEqDiff, Nat.reduceLeDiff, Nat.reduceAdd, Nat.reduceMul, Nat.reduceSub, Nat.reduceBEq, Nat.reduceGT, Nat.reduceLT, Int.reduceLE, Int.reduceLT, Int.reduceNeg, reduceCtorEq]
  refine FunI.by (F26 room H2) ?_
  rintro v3 H3 ⟨x3, hv3⟩
  have x13 : Ext H1 H3 := x2.trans (x3.mono x2.size)
  have x03 : Ext H H3 := x1.trans (x13.mono x1.size)
  by_cases hc : room < 0 ∨ 2147483647 < room
  · rw [if_pos hc] at hv2 hv3
    subst hv2
    subst hv3
    have y0 : (H3.push (.cells #[.pointer none, .pointer none] 51))[H3.size]? = some (.cells #[.pointer none, .pointer none] 51) := push_new
    have xy : Ext H3 (hput (H3.push (.cells #[.pointer none, .pointer none] 51)) H3.size 0 [.pointer none, .pointer none]) := (Ext.push _).hput (Nat.le_refl _)
    have ky : (hput (H3.push (.cells #[.pointer none, .pointer none] 51)) H3.size 0 [.pointer none, .pointer none])[H3.size]? = some (.cells #[.pointer none, .pointer none] 51) := by rw [hput_same y0]; rfl
    have hcn : hcan (H3.push (.cells #[.pointer none, .pointer none] 51)) H3.size 0 2 := hcan_of y0 (by simp)
    have g0 : hget (hput (H3.push (.cells #[.pointer none, .pointer none] 51)) H3.size 0 [.pointer none, .pointer none]) H3.size 0 = some (.pointer none) := by rw [hget_cells ky]; rfl
    have g1 : hget (hput (H3.push (.cells #[.pointer none, .pointer none] 51)) H3.size 0 [.pointer none, .pointer none]) H3.size 1 = some (.pointer none) := by rw [hget_cells ky]; rfl
    simp only [go_sem, ↓reduceIte, Nat.reduceEqDiff, Nat.reduceLeDiff, Nat.reduceAdd, Nat.reduceMul, Nat.reduceSub, Nat.reduceBEq, Nat.reduceGT, Nat.reduceLT, Int.reduceLE, Int.reduceLT, Int.reduceNeg, reduceCtorEq, hcn, g0, g1]
    refine ⟨rfl, ?_⟩
    exact x03.trans (xy.mono x03.size)
  · rw [if_neg hc] at hv2 hv3
    obtain ⟨b, F, rfl, h2, hF⟩ := hv2
    obtain ⟨c, F8, rfl, h3, hF8⟩ := hv3
    have y0 : (H3.push (.cells #[.pointer none, .pointer none] 51))[H3.size]? = some (.cells #[.pointer none, .pointer none] 51) := push_new
    have xy : Ext H3 (hput (H3.push (.cells #[.pointer none, .pointer none] 51)) H3.size 0 [ptrOf b, ptrOf c]) := (Ext.push _).hput (Nat.le_refl _)
    have ky : (hput (H3.push (.cells #[.pointer none, .pointer none] 51)) H3.size 0 [ptrOf b, ptrOf c])[H3.size]? = some (.cells #[ptrOf b, ptrOf c] 51) := by rw [hput_same y0]; rfl
    have hcn : hcan (H3.push (.cells #[.pointer none, .pointer none] 51)) H3.size 0 2 := hcan_of y0 (by simp)
    have g0 : hget (hput (H3.push (.cells #[.pointer none, .pointer none] 51)) H3.size 0 [ptrOf b, ptrOf c]) H3.size 0 = some (ptrOf b) := by rw [hget_cells ky]; rfl
    have g1 : hget (hput (H3.push (.cells #[.pointer none, .pointer none] 51)) H3.size 0 [ptrOf b, ptrOf c]) H3.size 1 = some (ptrOf c) := by rw [hget_cells ky]; rfl
    have e2 := (h2.ext x3).ext xy
    have e3 := h3.ext xy
    simp only [ptrOf] at hcn g0 g1 xy e2 e3
    simp only [go_sem, ↓reduceIte, Nat.reduceEqDiff, Nat.reduceLeDiff, Nat.reduceAdd, Nat.reduceMul, Nat.reduceSub, Nat.reduceBEq, Nat.reduceGT, Nat.reduceLT, Int.reduceLE, Int.reduceLT, Int.reduceNeg, reduceCtorEq, ptrOf, hcn, g0, g1, Option.bind_some]
    refine ⟨rfl, ?_⟩
    refine FunI.by (F27 e2 (fresh_ok (by omega)) (by simp [freshS]) e3 (fresh_okR room) (fresh_tells room)) ?_
    rintro _ H5 ⟨rfl, x5⟩
    simp only [go_sem, ↓reduceIte, Nat.reduceEqDiff, Nat.reduceLeDiff, Nat.reduceAdd, Nat.reduceMul, Nat.reduceSub, Nat.reduceBEq, Nat.reduceGT, Nat.reduceLT, Int.reduceLE, Int.reduceLT, Int.reduceNeg, reduceCtorEq]
    exact (x03.trans (xy.mono x03.size)).trans (x5.mono (x03.trans (xy.mono x03.size)).size)
end Go.Proofs.Ytmkheogjnlmkdaa
