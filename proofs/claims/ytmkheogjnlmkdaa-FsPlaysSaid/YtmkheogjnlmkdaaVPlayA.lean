/- One call at both file systems: names and numbers. -/
import Derived.Test.YtmkheogjnlmkdaaVPlay
set_option linter.unusedSimpArgs false
set_option linter.unusedVariables false
set_option maxRecDepth 20000
namespace Go.Proofs.Ytmkheogjnlmkdaa
open Go Go.V
-- 44: (pith/pithlaw8.both).plays
-- 27: (pith/pithlaw8.both).tells
-- 22: pith/pithlaw8.num
-- 39: (*pith/fs.FS).Create
-- 20: (*pith/fs.FS).Append
-- 21: (*pith/fs.FS).Sync
-- 45: (*pith/fs.FS).Rename
-- 46: (*pith/fs.FS).Remove
-- 34: (*pith/fs.FS).SyncDir
-- 31: (*pith/fs.FS).Read
-- 32: (*pith/fs.FS).Size
-- 28: (*pith/fs.FS).Arm
-- 25: (*pith/fs.FS).Crash
-- 81: (*pith/fs.FS).Rot
-- 68: (*pith/pithref8.FS).Create
-- 70: (*pith/pithref8.FS).Append
-- 71: (*pith/pithref8.FS).Sync
-- 72: (*pith/pithref8.FS).Rename
-- 73: (*pith/pithref8.FS).Remove
-- 74: (*pith/pithref8.FS).SyncDir
-- 75: (*pith/pithref8.FS).Read
-- 76: (*pith/pithref8.FS).Size
-- 77: (*pith/pithref8.FS).Arm
-- 79: (*pith/pithref8.FS).Crash
-- 82: (*pith/pithref8.FS).Rot
-- 69: pith/pithref.Bytes
-- 48: pith/pithref.SameBytes
-- 78: pith/pithref.Ints
-- 80: pith/pithref.SameInts
-- 51: pithlaw8.both
-- 75: pithlaw8.Op
-- 5: uint8
-- 3: int
-- 34: []uint8
-- 62: []int
section
variable {H H' : Heap} {U F G : Nat → Prop} {b c : Nat} {s : St} {r : RSt} {φ : Nat → Nat} {m : Int}
set_option maxHeartbeats 3200000 in
theorem plays_1 (y : ClV) (hy : ClOk H y) (hB : B8E H U b c m) (hm : m < 999999999990) (hk : y.x.kind = 1) :
    Fun Try.prog 44 #[.agg #[ptrOf b, ptrOf c], .agg (clC y).toArray] H (fun v H' => v = .bool true ∧ ∃ U', B8E H' U' b c (m + 1) ∧ Ch U U' H H') := by
  refine fun_of mixed (args := [_, _]) Try.func44 Try.ntmps44 b44 r44 rfl ?_
  obtain ⟨F, G, φ, s, r, h8, hops, hU⟩ := hB
  have bx0 := bx_new H b c y
  obtain ⟨⟨k, a, e, n, t, d, cu, o⟩, dv, cv⟩ := y
  simp only at hk
  subst hk
  have ltF := h8.lt.1
  have ltG := h8.lt.2
  obtain ⟨K, hK⟩ : ∃ K, K = (H.push (.cells #[.pointer (some ⟨b, 0, none⟩), .pointer (some ⟨c, 0, none⟩)] 51)).push (.cells #[.int .i64 1, .int .i64 a, .int .i64 e, .string n, .string t, dv, cv, .bool o] 75) := ⟨_, rfl⟩
  have bx : Bx H K b c ⟨⟨1, a, e, n, t, d, cu, o⟩, dv, cv⟩ := by rw [hK]; exact bx0
  clear bx0
  have k8 := h8.ext bx.ext
  have nF : ∀ x, (x = H.size ∨ x = H.size + 1) → ¬ F x := fun x hx hf => by have := ltF x hf; omega
  have nG : ∀ x, (x = H.size ∨ x = H.size + 1) → ¬ G x := fun x hx hf => by have := ltG x hf; omega
  obtain ⟨_, _, _, _, _, p⟩ := k8.f
  simp only [go_sem, ↓reduceIte, Nat.reduceEqDiff, Nat.reduceLeDiff, Nat.reduceAdd, Nat.reduceMul, Nat.reduceSub, Nat.reduceBEq, Nat.reduceGT, Nat.reduceLT, Int.reduceLE, Int.reduceLT, Int.reduceNeg, reduceCtorEq, ptrOf, clC, Int.reduceEq]
  refine DrawnI.at (fun x => x = H.size ∨ x = H.size + 1) ?_
  rw [← hK]
  simp only [go_sem, ↓reduceIte, Nat.reduceEqDiff, Nat.reduceLeDiff, Nat.reduceAdd, Nat.reduceMul, Nat.reduceSub, Nat.reduceBEq, Nat.reduceGT, Nat.reduceLT, Int.reduceLE, Int.reduceLT, Int.reduceNeg, reduceCtorEq, true_or, or_true, Array.size_push, bx.b0, bx.b1, bx.o1, bx.o2, bx.o3, bx.o4]
  refine FunI.by (F39 p h8.ok (by omega) n) ?_
  rintro _ H1 ⟨x, hx, rfl, F1, f1, c1⟩
  have q1 : Kept (fun x => x = H.size ∨ x = H.size + 1) K H1 := c1.kept nF
  obtain ⟨g1, d1⟩ := k8.g.other c1 fun x hx hf => h8.dis x hf hx
  obtain ⟨_, _, _, _, _, p8⟩ := g1
  simp only [go_sem, ↓reduceIte, Nat.reduceEqDiff, Nat.reduceLeDiff, Nat.reduceAdd, Nat.reduceMul, Nat.reduceSub, Nat.reduceBEq, Nat.reduceGT, Nat.reduceLT, Int.reduceLE, Int.reduceLT, Int.reduceNeg, reduceCtorEq]
  refine ⟨q1, ?_⟩
  refine FunI.by (F22 _ _) ?_
  rintro _ _ ⟨rfl, rfl⟩
  simp only [go_sem, ↓reduceIte, Nat.reduceEqDiff, Nat.reduceLeDiff, Nat.reduceAdd, Nat.reduceMul, Nat.reduceSub, Nat.reduceBEq, Nat.reduceGT, Nat.reduceLT, Int.reduceLE, Int.reduceLT, Int.reduceNeg, reduceCtorEq]
  refine ⟨q1, ?_⟩
  refine FunI.by (F68 p8 (h8.sim.ok h8.ok h8.lim (by omega)) n) ?_
  rintro _ H2 ⟨rfl, G2, g2, c2⟩
  simp only [go_sem, ↓reduceIte, Nat.reduceEqDiff, Nat.reduceLeDiff, Nat.reduceAdd, Nat.reduceMul, Nat.reduceSub, Nat.reduceBEq, Nat.reduceGT, Nat.reduceLT, Int.reduceLE, Int.reduceLT, Int.reduceNeg, reduceCtorEq]
  obtain ⟨sim1, e1⟩ := h8.sim.create h8.ok hx n
  exact ⟨q1.trans (c2.kept nG), by rw [e1]; simp, k8.next bx.ext c1 f1 c2 g2 (create_ok h8.ok n hx) (h8.lim.create n) sim1 hU (by have := create_ops s n x; omega)⟩
set_option maxHeartbeats 3200000 in
theorem plays_3 (y : ClV) (hy : ClOk H y) (hB : B8E H U b c m) (hm : m < 999999999990) (hk : y.x.kind = 3) :
    Fun Try.prog 44 #[.agg #[ptrOf b, ptrOf c], .agg (clC y).toArray] H (fun v H' => v = .bool true ∧ ∃ U', B8E H' U' b c (m + 1) ∧ Ch U U' H H') := by
  refine fun_of mixed (args := [_, _]) Try.func44 Try.ntmps44 b44 r44 rfl ?_
  obtain ⟨F, G, φ, s, r, h8, hops, hU⟩ := hB
  have bx0 := bx_new H b c y
  obtain ⟨⟨k, a, e, n, t, d, cu, o⟩, dv, cv⟩ := y
  simp only at hk
  subst hk
  have ltF := h8.lt.1
  have ltG := h8.lt.2
  obtain ⟨K, hK⟩ : ∃ K, K = (H.push (.cells #[.pointer (some ⟨b, 0, none⟩), .pointer (some ⟨c, 0, none⟩)] 51)).push (.cells #[.int .i64 3, .int .i64 a, .int .i64 e, .string n, .string t, dv, cv, .bool o] 75) := ⟨_, rfl⟩
  have bx : Bx H K b c ⟨⟨3, a, e, n, t, d, cu, o⟩, dv, cv⟩ := by rw [hK]; exact bx0
  clear bx0
  have k8 := h8.ext bx.ext
  have nF : ∀ x, (x = H.size ∨ x = H.size + 1) → ¬ F x := fun x hx hf => by have := ltF x hf; omega
  have nG : ∀ x, (x = H.size ∨ x = H.size + 1) → ¬ G x := fun x hx hf => by have := ltG x hf; omega
  obtain ⟨_, _, _, _, _, p⟩ := k8.f
  simp only [go_sem, ↓reduceIte, Nat.reduceEqDiff, Nat.reduceLeDiff, Nat.reduceAdd, Nat.reduceMul, Nat.reduceSub, Nat.reduceBEq, Nat.reduceGT, Nat.reduceLT, Int.reduceLE, Int.reduceLT, Int.reduceNeg, reduceCtorEq, ptrOf, clC, Int.reduceEq]
  refine DrawnI.at (fun x => x = H.size ∨ x = H.size + 1) ?_
  rw [← hK]
  simp only [go_sem, ↓reduceIte, Nat.reduceEqDiff, Nat.reduceLeDiff, Nat.reduceAdd, Nat.reduceMul, Nat.reduceSub, Nat.reduceBEq, Nat.reduceGT, Nat.reduceLT, Int.reduceLE, Int.reduceLT, Int.reduceNeg, reduceCtorEq, true_or, or_true, Array.size_push, bx.b0, bx.b1, bx.o1, bx.o2, bx.o3, bx.o4]
  refine FunI.by (F21 p h8.ok (by omega) n) ?_
  rintro _ H1 ⟨rfl, F1, f1, c1⟩
  have q1 : Kept (fun x => x = H.size ∨ x = H.size + 1) K H1 := c1.kept nF
  obtain ⟨g1, d1⟩ := k8.g.other c1 fun x hx hf => h8.dis x hf hx
  obtain ⟨_, _, _, _, _, p8⟩ := g1
  simp only [go_sem, ↓reduceIte, Nat.reduceEqDiff, Nat.reduceLeDiff, Nat.reduceAdd, Nat.reduceMul, Nat.reduceSub, Nat.reduceBEq, Nat.reduceGT, Nat.reduceLT, Int.reduceLE, Int.reduceLT, Int.reduceNeg, reduceCtorEq]
  refine ⟨q1, ?_⟩
  refine FunI.by (F22 _ _) ?_
  rintro _ _ ⟨rfl, rfl⟩
  simp only [go_sem, ↓reduceIte, Nat.reduceEqDiff, Nat.reduceLeDiff, Nat.reduceAdd, Nat.reduceMul, Nat.reduceSub, Nat.reduceBEq, Nat.reduceGT, Nat.reduceLT, Int.reduceLE, Int.reduceLT, Int.reduceNeg, reduceCtorEq]
  refine ⟨q1, ?_⟩
  refine FunI.by (F71 p8 (h8.sim.ok h8.ok h8.lim (by omega)) n) ?_
  rintro _ H2 ⟨rfl, G2, g2, c2⟩
  simp only [go_sem, ↓reduceIte, Nat.reduceEqDiff, Nat.reduceLeDiff, Nat.reduceAdd, Nat.reduceMul, Nat.reduceSub, Nat.reduceBEq, Nat.reduceGT, Nat.reduceLT, Int.reduceLE, Int.reduceLT, Int.reduceNeg, reduceCtorEq]
  obtain ⟨sim1, e1⟩ := h8.sim.sync h8.ok n
  exact ⟨q1.trans (c2.kept nG), by rw [e1]; simp, k8.next bx.ext c1 f1 c2 g2 (sync_ok h8.ok n) (h8.lim.sync h8.sim h8.ok n) sim1 hU (by have := sync_ops s n; omega)⟩
set_option maxHeartbeats 3200000 in
theorem plays_4 (y : ClV) (hy : ClOk H y) (hB : B8E H U b c m) (hm : m < 999999999990) (hk : y.x.kind = 4) :
    Fun Try.prog 44 #[.agg #[ptrOf b, ptrOf c], .agg (clC y).toArray] H (fun v H' => v = .bool true ∧ ∃ U', B8E H' U' b c (m + 1) ∧ Ch U U' H H') := by
  refine fun_of mixed (args := [_, _]) Try.func44 Try.ntmps44 b44 r44 rfl ?_
  obtain ⟨F, G, φ, s, r, h8, hops, hU⟩ := hB
  have bx0 := bx_new H b c y
  obtain ⟨⟨k, a, e, n, t, d, cu, o⟩, dv, cv⟩ := y
  simp only at hk
  subst hk
  have ltF := h8.lt.1
  have ltG := h8.lt.2
  obtain ⟨K, hK⟩ : ∃ K, K = (H.push (.cells #[.pointer (some ⟨b, 0, none⟩), .pointer (some ⟨c, 0, none⟩)] 51)).push (.cells #[.int .i64 4, .int .i64 a, .int .i64 e, .string n, .string t, dv, cv, .bool o] 75) := ⟨_, rfl⟩
  have bx : Bx H K b c ⟨⟨4, a, e, n, t, d, cu, o⟩, dv, cv⟩ := by rw [hK]; exact bx0
  clear bx0
  have k8 := h8.ext bx.ext
  have nF : ∀ x, (x = H.size ∨ x = H.size + 1) → ¬ F x := fun x hx hf => by have := ltF x hf; omega
  have nG : ∀ x, (x = H.size ∨ x = H.size + 1) → ¬ G x := fun x hx hf => by have := ltG x hf; omega
  obtain ⟨_, _, _, _, _, p⟩ := k8.f
  simp only [go_sem, ↓reduceIte, Nat.reduceEqDiff, Nat.reduceLeDiff, Nat.reduceAdd, Nat.reduceMul, Nat.reduceSub, Nat.reduceBEq, Nat.reduceGT, Nat.reduceLT, Int.reduceLE, Int.reduceLT, Int.reduceNeg, reduceCtorEq, ptrOf, clC, Int.reduceEq]
  refine DrawnI.at (fun x => x = H.size ∨ x = H.size + 1) ?_
  rw [← hK]
  simp only [go_sem, ↓reduceIte, Nat.reduceEqDiff, Nat.reduceLeDiff, Nat.reduceAdd, Nat.reduceMul, Nat.reduceSub, Nat.reduceBEq, Nat.reduceGT, Nat.reduceLT, Int.reduceLE, Int.reduceLT, Int.reduceNeg, reduceCtorEq, true_or, or_true, Array.size_push, bx.b0, bx.b1, bx.o1, bx.o2, bx.o3, bx.o4]
  refine FunI.by (F45 p h8.ok (by omega) n t) ?_
  rintro _ H1 ⟨rfl, F1, f1, c1⟩
  have q1 : Kept (fun x => x = H.size ∨ x = H.size + 1) K H1 := c1.kept nF
  obtain ⟨g1, d1⟩ := k8.g.other c1 fun x hx hf => h8.dis x hf hx
  obtain ⟨_, _, _, _, _, p8⟩ := g1
  simp only [go_sem, ↓reduceIte, Nat.reduceEqDiff, Nat.reduceLeDiff, Nat.reduceAdd, Nat.reduceMul, Nat.reduceSub, Nat.reduceBEq, Nat.reduceGT, Nat.reduceLT, Int.reduceLE, Int.reduceLT, Int.reduceNeg, reduceCtorEq]
  refine ⟨q1, ?_⟩
  refine FunI.by (F22 _ _) ?_
  rintro _ _ ⟨rfl, rfl⟩
  simp only [go_sem, ↓reduceIte, Nat.reduceEqDiff, Nat.reduceLeDiff, Nat.reduceAdd, Nat.reduceMul, Nat.reduceSub, Nat.reduceBEq, Nat.reduceGT, Nat.reduceLT, Int.reduceLE, Int.reduceLT, Int.reduceNeg, reduceCtorEq]
  refine ⟨q1, ?_⟩
  refine FunI.by (F72 p8 (h8.sim.ok h8.ok h8.lim (by omega)) n t) ?_
  rintro _ H2 ⟨rfl, G2, g2, c2⟩
  simp only [go_sem, ↓reduceIte, Nat.reduceEqDiff, Nat.reduceLeDiff, Nat.reduceAdd, Nat.reduceMul, Nat.reduceSub, Nat.reduceBEq, Nat.reduceGT, Nat.reduceLT, Int.reduceLE, Int.reduceLT, Int.reduceNeg, reduceCtorEq]
  obtain ⟨sim1, e1⟩ := h8.sim.rename h8.ok n t
  exact ⟨q1.trans (c2.kept nG), by rw [e1]; simp, k8.next bx.ext c1 f1 c2 g2 (rename_ok h8.ok n t) (h8.lim.rename n t) sim1 hU (by have := rename_ops s n t; omega)⟩
set_option maxHeartbeats 3200000 in
theorem plays_5 (y : ClV) (hy : ClOk H y) (hB : B8E H U b c m) (hm : m < 999999999990) (hk : y.x.kind = 5) :
    Fun Try.prog 44 #[.agg #[ptrOf b, ptrOf c], .agg (clC y).toArray] H (fun v H' => v = .bool true ∧ ∃ U', B8E H' U' b c (m + 1) ∧ Ch U U' H H') := by
  refine fun_of mixed (args := [_, _]) Try.func44 Try.ntmps44 b44 r44 rfl ?_
  obtain ⟨F, G, φ, s, r, h8, hops, hU⟩ := hB
  have bx0 := bx_new H b c y
  obtain ⟨⟨k, a, e, n, t, d, cu, o⟩, dv, cv⟩ := y
  simp only at hk
  subst hk
  have ltF := h8.lt.1
  have ltG := h8.lt.2
  obtain ⟨K, hK⟩ : ∃ K, K = (H.push (.cells #[.pointer (some ⟨b, 0, none⟩), .pointer (some ⟨c, 0, none⟩)] 51)).push (.cells #[.int .i64 5, .int .i64 a, .int .i64 e, .string n, .string t, dv, cv, .bool o] 75) := ⟨_, rfl⟩
  have bx : Bx H K b c ⟨⟨5, a, e, n, t, d, cu, o⟩, dv, cv⟩ := by rw [hK]; exact bx0
  clear bx0
  have k8 := h8.ext bx.ext
  have nF : ∀ x, (x = H.size ∨ x = H.size + 1) → ¬ F x := fun x hx hf => by have := ltF x hf; omega
  have nG : ∀ x, (x = H.size ∨ x = H.size + 1) → ¬ G x := fun x hx hf => by have := ltG x hf; omega
  obtain ⟨_, _, _, _, _, p⟩ := k8.f
  simp only [go_sem, ↓reduceIte, Nat.reduceEqDiff, Nat.reduceLeDiff, Nat.reduceAdd, Nat.reduceMul, Nat.reduceSub, Nat.reduceBEq, Nat.reduceGT, Nat.reduceLT, Int.reduceLE, Int.reduceLT, Int.reduceNeg, reduceCtorEq, ptrOf, clC, Int.reduceEq]
  refine DrawnI.at (fun x => x = H.size ∨ x = H.size + 1) ?_
  rw [← hK]
  simp only [go_sem, ↓reduceIte, Nat.reduceEqDiff, Nat.reduceLeDiff, Nat.reduceAdd, Nat.reduceMul, Nat.reduceSub, Nat.reduceBEq, Nat.reduceGT, Nat.reduceLT, Int.reduceLE, Int.reduceLT, Int.reduceNeg, reduceCtorEq, true_or, or_true, Array.size_push, bx.b0, bx.b1, bx.o1, bx.o2, bx.o3, bx.o4]
  refine FunI.by (F46 p h8.ok (by omega) n) ?_
  rintro _ H1 ⟨rfl, F1, f1, c1⟩
  have q1 : Kept (fun x => x = H.size ∨ x = H.size + 1) K H1 := c1.kept nF
  obtain ⟨g1, d1⟩ := k8.g.other c1 fun x hx hf => h8.dis x hf hx
  obtain ⟨_, _, _, _, _, p8⟩ := g1
  simp only [go_sem, ↓reduceIte, Nat.reduceEqDiff, Nat.reduceLeDiff, Nat.reduceAdd, Nat.reduceMul, Nat.reduceSub, Nat.reduceBEq, Nat.reduceGT, Nat.reduceLT, Int.reduceLE, Int.reduceLT, Int.reduceNeg, reduceCtorEq]
  refine ⟨q1, ?_⟩
  refine FunI.by (F22 _ _) ?_
  rintro _ _ ⟨rfl, rfl⟩
  simp only [go_sem, ↓reduceIte, Nat.reduceEqDiff, Nat.reduceLeDiff, Nat.reduceAdd, Nat.reduceMul, Nat.reduceSub, Nat.reduceBEq, Nat.reduceGT, Nat.reduceLT, Int.reduceLE, Int.reduceLT, Int.reduceNeg, reduceCtorEq]
  refine ⟨q1, ?_⟩
  refine FunI.by (F73 p8 (h8.sim.ok h8.ok h8.lim (by omega)) n) ?_
  rintro _ H2 ⟨rfl, G2, g2, c2⟩
  simp only [go_sem, ↓reduceIte, Nat.reduceEqDiff, Nat.reduceLeDiff, Nat.reduceAdd, Nat.reduceMul, Nat.reduceSub, Nat.reduceBEq, Nat.reduceGT, Nat.reduceLT, Int.reduceLE, Int.reduceLT, Int.reduceNeg, reduceCtorEq]
  obtain ⟨sim1, e1⟩ := h8.sim.remove h8.ok n
  exact ⟨q1.trans (c2.kept nG), by rw [e1]; simp, k8.next bx.ext c1 f1 c2 g2 (remove_ok h8.ok n) (h8.lim.remove n) sim1 hU (by have := remove_ops s n; omega)⟩
set_option maxHeartbeats 3200000 in
theorem plays_6 (y : ClV) (hy : ClOk H y) (hB : B8E H U b c m) (hm : m < 999999999990) (hk : y.x.kind = 6) :
    Fun Try.prog 44 #[.agg #[ptrOf b, ptrOf c], .agg (clC y).toArray] H (fun v H' => v = .bool true ∧ ∃ U', B8E H' U' b c (m + 1) ∧ Ch U U' H H') := by
  refine fun_of mixed (args := [_, _]) Try.func44 Try.ntmps44 b44 r44 rfl ?_
  obtain ⟨F, G, φ, s, r, h8, hops, hU⟩ := hB
  have bx0 := bx_new H b c y
  obtain ⟨⟨k, a, e, n, t, d, cu, o⟩, dv, cv⟩ := y
  simp only at hk
  subst hk
  have ltF := h8.lt.1
  have ltG := h8.lt.2
  obtain ⟨K, hK⟩ : ∃ K, K = (H.push (.cells #[.pointer (some ⟨b, 0, none⟩), .pointer (some ⟨c, 0, none⟩)] 51)).push (.cells #[.int .i64 6, .int .i64 a, .int .i64 e, .string n, .string t, dv, cv, .bool o] 75) := ⟨_, rfl⟩
  have bx : Bx H K b c ⟨⟨6, a, e, n, t, d, cu, o⟩, dv, cv⟩ := by rw [hK]; exact bx0
  clear bx0
  have k8 := h8.ext bx.ext
  have nF : ∀ x, (x = H.size ∨ x = H.size + 1) → ¬ F x := fun x hx hf => by have := ltF x hf; omega
  have nG : ∀ x, (x = H.size ∨ x = H.size + 1) → ¬ G x := fun x hx hf => by have := ltG x hf; omega
  obtain ⟨_, _, _, _, _, p⟩ := k8.f
  simp only [go_sem, ↓reduceIte, Nat.reduceEqDiff, Nat.reduceLeDiff, Nat.reduceAdd, Nat.reduceMul, Nat.reduceSub, Nat.reduceBEq, Nat.reduceGT, Nat.reduceLT, Int.reduceLE, Int.reduceLT, Int.reduceNeg, reduceCtorEq, ptrOf, clC, Int.reduceEq]
  refine DrawnI.at (fun x => x = H.size ∨ x = H.size + 1) ?_
  rw [← hK]
  simp only [go_sem, ↓reduceIte, Nat.reduceEqDiff, Nat.reduceLeDiff, Nat.reduceAdd, Nat.reduceMul, Nat.reduceSub, Nat.reduceBEq, Nat.reduceGT, Nat.reduceLT, Int.reduceLE, Int.reduceLT, Int.reduceNeg, reduceCtorEq, true_or, or_true, Array.size_push, bx.b0, bx.b1, bx.o1, bx.o2, bx.o3, bx.o4]
  refine FunI.by (F34 p h8.ok (by omega)) ?_
  rintro _ H1 ⟨rfl, F1, f1, c1⟩
  have q1 : Kept (fun x => x = H.size ∨ x = H.size + 1) K H1 := c1.kept nF
  obtain ⟨g1, d1⟩ := k8.g.other c1 fun x hx hf => h8.dis x hf hx
  obtain ⟨_, _, _, _, _, p8⟩ := g1
  simp only [go_sem, ↓reduceIte, Nat.reduceEqDiff, Nat.reduceLeDiff, Nat.reduceAdd, Nat.reduceMul, Nat.reduceSub, Nat.reduceBEq, Nat.reduceGT, Nat.reduceLT, Int.reduceLE, Int.reduceLT, Int.reduceNeg, reduceCtorEq]
  refine ⟨q1, ?_⟩
  refine FunI.by (F22 _ _) ?_
  rintro _ _ ⟨rfl, rfl⟩
  simp only [go_sem, ↓reduceIte, Nat.reduceEqDiff, Nat.reduceLeDiff, Nat.reduceAdd, Nat.reduceMul, Nat.reduceSub, Nat.reduceBEq, Nat.reduceGT, Nat.reduceLT, Int.reduceLE, Int.reduceLT, Int.reduceNeg, reduceCtorEq]
  refine ⟨q1, ?_⟩
  refine FunI.by (F74 p8 (h8.sim.ok h8.ok h8.lim (by omega))) ?_
  rintro _ H2 ⟨rfl, G2, g2, c2⟩
  simp only [go_sem, ↓reduceIte, Nat.reduceEqDiff, Nat.reduceLeDiff, Nat.reduceAdd, Nat.reduceMul, Nat.reduceSub, Nat.reduceBEq, Nat.reduceGT, Nat.reduceLT, Int.reduceLE, Int.reduceLT, Int.reduceNeg, reduceCtorEq]
  obtain ⟨sim1, e1⟩ := h8.sim.syncDir h8.ok
  exact ⟨q1.trans (c2.kept nG), by rw [e1]; simp, k8.next bx.ext c1 f1 c2 g2 (syncDir_ok h8.ok) (h8.lim.syncDir) sim1 hU (by have := syncDir_ops s; omega)⟩
set_option maxHeartbeats 3200000 in
theorem plays_9 (y : ClV) (hy : ClOk H y) (hB : B8E H U b c m) (hm : m < 999999999990) (hk : y.x.kind = 9) :
    Fun Try.prog 44 #[.agg #[ptrOf b, ptrOf c], .agg (clC y).toArray] H (fun v H' => v = .bool true ∧ ∃ U', B8E H' U' b c (m + 1) ∧ Ch U U' H H') := by
  refine fun_of mixed (args := [_, _]) Try.func44 Try.ntmps44 b44 r44 rfl ?_
  obtain ⟨F, G, φ, s, r, h8, hops, hU⟩ := hB
  have bx0 := bx_new H b c y
  obtain ⟨⟨k, a, e, n, t, d, cu, o⟩, dv, cv⟩ := y
  simp only at hk
  subst hk
  have ltF := h8.lt.1
  have ltG := h8.lt.2
  obtain ⟨K, hK⟩ : ∃ K, K = (H.push (.cells #[.pointer (some ⟨b, 0, none⟩), .pointer (some ⟨c, 0, none⟩)] 51)).push (.cells #[.int .i64 9, .int .i64 a, .int .i64 e, .string n, .string t, dv, cv, .bool o] 75) := ⟨_, rfl⟩
  have bx : Bx H K b c ⟨⟨9, a, e, n, t, d, cu, o⟩, dv, cv⟩ := by rw [hK]; exact bx0
  clear bx0
  have k8 := h8.ext bx.ext
  have nF : ∀ x, (x = H.size ∨ x = H.size + 1) → ¬ F x := fun x hx hf => by have := ltF x hf; omega
  have nG : ∀ x, (x = H.size ∨ x = H.size + 1) → ¬ G x := fun x hx hf => by have := ltG x hf; omega
  obtain ⟨_, _, _, _, _, p⟩ := k8.f
  simp only [go_sem, ↓reduceIte, Nat.reduceEqDiff, Nat.reduceLeDiff, Nat.reduceAdd, Nat.reduceMul, Nat.reduceSub, Nat.reduceBEq, Nat.reduceGT, Nat.reduceLT, Int.reduceLE, Int.reduceLT, Int.reduceNeg, reduceCtorEq, ptrOf, clC, Int.reduceEq]
  refine DrawnI.at (fun x => x = H.size ∨ x = H.size + 1) ?_
  rw [← hK]
  simp only [go_sem, ↓reduceIte, Nat.reduceEqDiff, Nat.reduceLeDiff, Nat.reduceAdd, Nat.reduceMul, Nat.reduceSub, Nat.reduceBEq, Nat.reduceGT, Nat.reduceLT, Int.reduceLE, Int.reduceLT, Int.reduceNeg, reduceCtorEq, true_or, or_true, Array.size_push, bx.b0, bx.b1, bx.o1, bx.o2, bx.o3, bx.o4]
  refine FunI.by (F28 k8.f a) ?_
  rintro _ H1 ⟨rfl, f1, c1⟩
  have q1 : Kept (fun x => x = H.size ∨ x = H.size + 1) K H1 := c1.kept nF
  obtain ⟨g1, d1⟩ := k8.g.other c1 fun x hx hf => h8.dis x hf hx
  obtain ⟨_, _, _, _, _, p8⟩ := g1
  simp only [go_sem, ↓reduceIte, Nat.reduceEqDiff, Nat.reduceLeDiff, Nat.reduceAdd, Nat.reduceMul, Nat.reduceSub, Nat.reduceBEq, Nat.reduceGT, Nat.reduceLT, Int.reduceLE, Int.reduceLT, Int.reduceNeg, reduceCtorEq]
  refine ⟨q1, ?_⟩
  refine FunI.by (F22 _ _) ?_
  rintro _ _ ⟨rfl, rfl⟩
  simp only [go_sem, ↓reduceIte, Nat.reduceEqDiff, Nat.reduceLeDiff, Nat.reduceAdd, Nat.reduceMul, Nat.reduceSub, Nat.reduceBEq, Nat.reduceGT, Nat.reduceLT, Int.reduceLE, Int.reduceLT, Int.reduceNeg, reduceCtorEq]
  refine ⟨q1, ?_⟩
  refine FunI.by (F77 p8 a) ?_
  rintro _ H2 ⟨rfl, g2, c2⟩
  simp only [go_sem, ↓reduceIte, Nat.reduceEqDiff, Nat.reduceLeDiff, Nat.reduceAdd, Nat.reduceMul, Nat.reduceSub, Nat.reduceBEq, Nat.reduceGT, Nat.reduceLT, Int.reduceLE, Int.reduceLT, Int.reduceNeg, reduceCtorEq]
  obtain ⟨sim1, e1⟩ := h8.sim.arm8 a
  exact ⟨q1.trans (c2.kept nG), by rw [e1]; simp, k8.next bx.ext c1 f1 c2 ⟨_, _, _, _, _, g2⟩ (arm_ok h8.ok hy.a.2) (h8.lim.arm a) sim1 hU (by have := arm_ops s a; omega)⟩
set_option maxHeartbeats 3200000 in
theorem plays_11 (y : ClV) (hy : ClOk H y) (hB : B8E H U b c m) (hm : m < 999999999990) (hk : y.x.kind = 11) :
    Fun Try.prog 44 #[.agg #[ptrOf b, ptrOf c], .agg (clC y).toArray] H (fun v H' => v = .bool true ∧ ∃ U', B8E H' U' b c (m + 1) ∧ Ch U U' H H') := by
  refine fun_of mixed (args := [_, _]) Try.func44 Try.ntmps44 b44 r44 rfl ?_
  obtain ⟨F, G, φ, s, r, h8, hops, hU⟩ := hB
  have bx0 := bx_new H b c y
  obtain ⟨⟨k, a, e, n, t, d, cu, o⟩, dv, cv⟩ := y
  simp only at hk
  subst hk
  have ltF := h8.lt.1
  have ltG := h8.lt.2
  obtain ⟨K, hK⟩ : ∃ K, K = (H.push (.cells #[.pointer (some ⟨b, 0, none⟩), .pointer (some ⟨c, 0, none⟩)] 51)).push (.cells #[.int .i64 11, .int .i64 a, .int .i64 e, .string n, .string t, dv, cv, .bool o] 75) := ⟨_, rfl⟩
  have bx : Bx H K b c ⟨⟨11, a, e, n, t, d, cu, o⟩, dv, cv⟩ := by rw [hK]; exact bx0
  clear bx0
  have k8 := h8.ext bx.ext
  have nF : ∀ x, (x = H.size ∨ x = H.size + 1) → ¬ F x := fun x hx hf => by have := ltF x hf; omega
  have nG : ∀ x, (x = H.size ∨ x = H.size + 1) → ¬ G x := fun x hx hf => by have := ltG x hf; omega
  obtain ⟨_, _, _, _, _, p⟩ := k8.f
  simp only [go_sem, ↓reduceIte, Nat.reduceEqDiff, Nat.reduceLeDiff, Nat.reduceAdd, Nat.reduceMul, Nat.reduceSub, Nat.reduceBEq, Nat.reduceGT, Nat.reduceLT, Int.reduceLE, Int.reduceLT, Int.reduceNeg, reduceCtorEq, ptrOf, clC, Int.reduceEq]
  refine DrawnI.at (fun x => x = H.size ∨ x = H.size + 1) ?_
  rw [← hK]
  simp only [go_sem, ↓reduceIte, Nat.reduceEqDiff, Nat.reduceLeDiff, Nat.reduceAdd, Nat.reduceMul, Nat.reduceSub, Nat.reduceBEq, Nat.reduceGT, Nat.reduceLT, Int.reduceLE, Int.reduceLT, Int.reduceNeg, reduceCtorEq, true_or, or_true, Array.size_push, bx.b0, bx.b1, bx.o1, bx.o2, bx.o3, bx.o4]
  refine FunI.by (F81 p h8.ok n a e) ?_
  rintro _ H1 ⟨rfl, F1, f1, c1⟩
  have q1 : Kept (fun x => x = H.size ∨ x = H.size + 1) K H1 := c1.kept nF
  obtain ⟨g1, d1⟩ := k8.g.other c1 fun x hx hf => h8.dis x hf hx
  obtain ⟨_, _, _, _, _, p8⟩ := g1
  simp only [go_sem, ↓reduceIte, Nat.reduceEqDiff, Nat.reduceLeDiff, Nat.reduceAdd, Nat.reduceMul, Nat.reduceSub, Nat.reduceBEq, Nat.reduceGT, Nat.reduceLT, Int.reduceLE, Int.reduceLT, Int.reduceNeg, reduceCtorEq]
  refine ⟨q1, ?_⟩
  refine FunI.by (F22 _ _) ?_
  rintro _ _ ⟨rfl, rfl⟩
  simp only [go_sem, ↓reduceIte, Nat.reduceEqDiff, Nat.reduceLeDiff, Nat.reduceAdd, Nat.reduceMul, Nat.reduceSub, Nat.reduceBEq, Nat.reduceGT, Nat.reduceLT, Int.reduceLE, Int.reduceLT, Int.reduceNeg, reduceCtorEq]
  refine ⟨q1, ?_⟩
  refine FunI.by (F82 p8 (h8.sim.ok h8.ok h8.lim (by omega)) n a e) ?_
  rintro _ H2 ⟨rfl, G2, g2, c2⟩
  simp only [go_sem, ↓reduceIte, Nat.reduceEqDiff, Nat.reduceLeDiff, Nat.reduceAdd, Nat.reduceMul, Nat.reduceSub, Nat.reduceBEq, Nat.reduceGT, Nat.reduceLT, Int.reduceLE, Int.reduceLT, Int.reduceNeg, reduceCtorEq]
  obtain ⟨sim1, e1⟩ := h8.sim.rot h8.ok n a e
  exact ⟨q1.trans (c2.kept nG), by rw [e1]; simp, k8.next bx.ext c1 f1 c2 g2 (rot_ok h8.ok n a e) (h8.lim.rot h8.sim h8.ok n a e) sim1 hU (by have := rot_ops s n a e; omega)⟩
end
end Go.Proofs.Ytmkheogjnlmkdaa
