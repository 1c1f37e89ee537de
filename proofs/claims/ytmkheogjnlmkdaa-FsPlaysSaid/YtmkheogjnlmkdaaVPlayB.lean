/- One call at both file systems: what is read, what is told. -/
import Derived.Test.YtmkheogjnlmkdaaVPlay
set_option linter.unusedSimpArgs false
set_option linter.unusedVariables false
set_option maxRecDepth 20000
namespace Go.Proofs.Ytmkheogjnlmkdaa
open Go Go.V
-- 44: (pith/pithlaw8.both).plays
-- 27: (pith/pithlaw8.both).tells
-- 22: pith/pithlaw8.num
-- 39: (*pith/fs.FS).Create
-- 20: (*pith/fs.FS).Append
-- 21: (*pith/fs.FS).Sync
-- 45: (*pith/fs.FS).Rename
-- 46: (*pith/fs.FS).Remove
-- 34: (*pith/fs.FS).SyncDir
-- 31: (*pith/fs.FS).Read
-- 32: (*pith/fs.FS).Size
-- 28: (*pith/fs.FS).Arm
-- 25: (*pith/fs.FS).Crash
-- 81: (*pith/fs.FS).Rot
-- 68: (*pith/pithref8.FS).Create
-- 70: (*pith/pithref8.FS).Append
-- 71: (*pith/pithref8.FS).Sync
-- 72: (*pith/pithref8.FS).Rename
-- 73: (*pith/pithref8.FS).Remove
-- 74: (*pith/pithref8.FS).SyncDir
-- 75: (*pith/pithref8.FS).Read
-- 76: (*pith/pithref8.FS).Size
-- 77: (*pith/pithref8.FS).Arm
-- 79: (*pith/pithref8.FS).Crash
-- 82: (*pith/pithref8.FS).Rot
-- 69: pith/pithref.Bytes
-- 48: pith/pithref.SameBytes
-- 78: pith/pithref.Ints
-- 80: pith/pithref.SameInts
-- 51: pithlaw8.both
-- 75: pithlaw8.Op
-- 5: uint8
-- 3: int
-- 34: []uint8
-- 62: []int
section
variable {H H' : Heap} {U F G : Nat → Prop} {b c : Nat} {s : St} {r : RSt} {φ : Nat → Nat} {m : Int}
/-- Nothing was turned. -/
theorem B8.same {H0 : Heap} {m' : Int} (h : B8 H F G b c φ s r) (x : Ext H0 H) (hU : ∀ x, U x ↔ (F x ∨ G x)) (hm : s.ops ≤ m') : ∃ U', B8E H U' b c m' ∧ Ch U U' H0 H :=
  ⟨U, ⟨F, G, φ, s, r, h, hm, hU⟩, Ch.ext x⟩
theorem read_byt {s : St} (ok : Ok s) (n : Nm) (a k : Int) : Byt (readS s n a k).1 := by
  unfold readS
  split
  · rename_i x e hf
    split
    · intro z hz; simp at hz
    · intro z hz
      exact ok.byt x (ok.nowH _ _ (find_now hf).1) z (List.mem_of_mem_drop (List.mem_of_mem_take hz))
  · intro z hz; simp at hz
set_option maxHeartbeats 3200000 in
theorem plays_7 (y : ClV) (hy : ClOk H y) (hB : B8E H U b c m) (hm : m < 999999999990) (hk : y.x.kind = 7) :
    Fun Try.prog 44 #[.agg #[ptrOf b, ptrOf c], .agg (clC y).toArray] H (fun v H' => v = .bool true ∧ ∃ U', B8E H' U' b c (m + 1) ∧ Ch U U' H H') := by
  refine fun_of mixed (args := [_, _]) Try.func44 Try.ntmps44 b44 r44 rfl ?_
  obtain ⟨F, G, φ, s, r, h8, hops, hU⟩ := hB
  have bx0 := bx_new H b c y
  obtain ⟨⟨k, a, e, n, t, d, cu, o⟩, dv, cv⟩ := y
  simp only at hk
  subst hk
  have ltF := h8.lt.1
  have ltG := h8.lt.2
  obtain ⟨K, hK⟩ : ∃ K, K = (H.push (.cells #[.pointer (some ⟨b, 0, none⟩), .pointer (some ⟨c, 0, none⟩)] 51)).push (.cells #[.int .i64 7, .int .i64 a, .int .i64 e, .string n, .string t, dv, cv, .bool o] 75) := ⟨_, rfl⟩
  have bx : Bx H K b c ⟨⟨7, a, e, n, t, d, cu, o⟩, dv, cv⟩ := by rw [hK]; exact bx0
  clear bx0
  have k8 := h8.ext bx.ext
  have nF : ∀ x, (x = H.size ∨ x = H.size + 1) → ¬ F x := fun x hx hf => by have := ltF x hf; omega
  have nG : ∀ x, (x = H.size ∨ x = H.size + 1) → ¬ G x := fun x hx hf => by have := ltG x hf; omega
  simp only [go_sem, ↓reduceIte, Nat.reduceEqDiff, Nat.reduceLeDiff, Nat.reduceAdd, Nat.reduceMul, Nat.reduceSub, Nat.reduceBEq, Nat.reduceGT, Nat.reduceLT, Int.reduceLE, Int.reduceLT, Int.reduceNeg, reduceCtorEq, ptrOf, clC, Int.reduceEq]
  rw [← hK]
  obtain ⟨_, _, _, _, _, p⟩ := k8.f
  refine FunI.by (F31 p h8.ok n a e hy.b.2) ?_
  rintro _ H1 ⟨v1, rfl, o1, x1⟩
  have bx1 : hget H1 H.size 1 = some (.pointer (some ⟨c, 0, none⟩)) := hget_ext x1 bx.b1
  have ox1 := hget_ext x1 bx.o1
  have ox2 := hget_ext x1 bx.o2
  have ox3 := hget_ext x1 bx.o3
  simp only [go_sem, ↓reduceIte, Nat.reduceEqDiff, Nat.reduceLeDiff, Nat.reduceAdd, Nat.reduceMul, Nat.reduceSub, Nat.reduceBEq, Nat.reduceGT, Nat.reduceLT, Int.reduceLE, Int.reduceLT, Int.reduceNeg, reduceCtorEq, Array.size_push, bx1, ox1, ox2, ox3]
  have k81 := k8.ext x1
  obtain ⟨_, _, _, _, _, p8⟩ := k81.g
  refine FunI.by (F75 p8 (h8.sim.ok h8.ok h8.lim (by omega)) n a e hy.b.2) ?_
  rintro _ H2 ⟨v2, rfl, o2, x2⟩
  have er := h8.sim.read h8.ok n a e
  rw [er] at o2
  have hbt := read_byt h8.ok n a e
  simp only [go_sem, ↓reduceIte, Nat.reduceEqDiff, Nat.reduceLeDiff, Nat.reduceAdd, Nat.reduceMul, Nat.reduceSub, Nat.reduceBEq, Nat.reduceGT, Nat.reduceLT, Int.reduceLE, Int.reduceLT, Int.reduceNeg, reduceCtorEq]
  refine FunI.by (F48 v1 v2 _ _ H2 (o1.ext x2).sl o2.sl hbt hbt) ?_
  rintro _ _ ⟨rfl, rfl⟩
  simp only [go_sem, ↓reduceIte, Nat.reduceEqDiff, Nat.reduceLeDiff, Nat.reduceAdd, Nat.reduceMul, Nat.reduceSub, Nat.reduceBEq, Nat.reduceGT, Nat.reduceLT, Int.reduceLE, Int.reduceLT, Int.reduceNeg, reduceCtorEq, decide_true]
  refine FunI.by (F22 _ _) ?_
  rintro _ _ ⟨rfl, rfl⟩
  rw [er]
  have x12 : Ext K H2 := x1.trans (x2.mono x1.size)
  simp only [go_sem, ↓reduceIte, Nat.reduceEqDiff, Nat.reduceLeDiff, Nat.reduceAdd, Nat.reduceMul, Nat.reduceSub, Nat.reduceBEq, Nat.reduceGT, Nat.reduceLT, Int.reduceLE, Int.reduceLT, Int.reduceNeg, reduceCtorEq, decide_true]
  exact (k8.ext x12).same (bx.ext.trans (x12.mono bx.ext.size)) hU (by omega)
set_option maxHeartbeats 3200000 in
theorem plays_8 (y : ClV) (hy : ClOk H y) (hB : B8E H U b c m) (hm : m < 999999999990) (hk : y.x.kind = 8) :
    Fun Try.prog 44 #[.agg #[ptrOf b, ptrOf c], .agg (clC y).toArray] H (fun v H' => v = .bool true ∧ ∃ U', B8E H' U' b c (m + 1) ∧ Ch U U' H H') := by
  refine fun_of mixed (args := [_, _]) Try.func44 Try.ntmps44 b44 r44 rfl ?_
  obtain ⟨F, G, φ, s, r, h8, hops, hU⟩ := hB
  have bx0 := bx_new H b c y
  obtain ⟨⟨k, a, e, n, t, d, cu, o⟩, dv, cv⟩ := y
  simp only at hk
  subst hk
  have ltF := h8.lt.1
  have ltG := h8.lt.2
  obtain ⟨K, hK⟩ : ∃ K, K = (H.push (.cells #[.pointer (some ⟨b, 0, none⟩), .pointer (some ⟨c, 0, none⟩)] 51)).push (.cells #[.int .i64 8, .int .i64 a, .int .i64 e, .string n, .string t, dv, cv, .bool o] 75) := ⟨_, rfl⟩
  have bx : Bx H K b c ⟨⟨8, a, e, n, t, d, cu, o⟩, dv, cv⟩ := by rw [hK]; exact bx0
  clear bx0
  have k8 := h8.ext bx.ext
  have nF : ∀ x, (x = H.size ∨ x = H.size + 1) → ¬ F x := fun x hx hf => by have := ltF x hf; omega
  have nG : ∀ x, (x = H.size ∨ x = H.size + 1) → ¬ G x := fun x hx hf => by have := ltG x hf; omega
  simp only [go_sem, ↓reduceIte, Nat.reduceEqDiff, Nat.reduceLeDiff, Nat.reduceAdd, Nat.reduceMul, Nat.reduceSub, Nat.reduceBEq, Nat.reduceGT, Nat.reduceLT, Int.reduceLE, Int.reduceLT, Int.reduceNeg, reduceCtorEq, ptrOf, clC, Int.reduceEq]
  rw [← hK]
  obtain ⟨_, _, _, _, _, p⟩ := k8.f
  refine FunI.by (F32 p h8.ok.nowH n) ?_
  rintro _ H1 ⟨rfl, x1⟩
  have bx1 : hget H1 H.size 1 = some (.pointer (some ⟨c, 0, none⟩)) := hget_ext x1 bx.b1
  have ox3 := hget_ext x1 bx.o3
  simp only [go_sem, ↓reduceIte, Nat.reduceEqDiff, Nat.reduceLeDiff, Nat.reduceAdd, Nat.reduceMul, Nat.reduceSub, Nat.reduceBEq, Nat.reduceGT, Nat.reduceLT, Int.reduceLE, Int.reduceLT, Int.reduceNeg, reduceCtorEq, Array.size_push, bx1, ox3]
  have k81 := k8.ext x1
  obtain ⟨_, _, _, _, _, p8⟩ := k81.g
  refine FunI.by (F76 p8 (h8.sim.ok h8.ok h8.lim (by omega)) n) ?_
  rintro _ _ ⟨rfl, rfl⟩
  have er := h8.sim.size h8.ok n
  rw [er]
  simp only [go_sem, ↓reduceIte, Nat.reduceEqDiff, Nat.reduceLeDiff, Nat.reduceAdd, Nat.reduceMul, Nat.reduceSub, Nat.reduceBEq, Nat.reduceGT, Nat.reduceLT, Int.reduceLE, Int.reduceLT, Int.reduceNeg, reduceCtorEq, decide_true]
  refine FunI.by (F22 _ _) ?_
  rintro _ _ ⟨rfl, rfl⟩
  simp only [go_sem, ↓reduceIte, Nat.reduceEqDiff, Nat.reduceLeDiff, Nat.reduceAdd, Nat.reduceMul, Nat.reduceSub, Nat.reduceBEq, Nat.reduceGT, Nat.reduceLT, Int.reduceLE, Int.reduceLT, Int.reduceNeg, reduceCtorEq, decide_true]
  exact k81.same (bx.ext.trans (x1.mono bx.ext.size)) hU (by omega)
set_option maxHeartbeats 3200000 in
theorem plays_12 (y : ClV) (hy : ClOk H y) (hB : B8E H U b c m) (hm : m < 999999999990) (hk : y.x.kind = 12) :
    Fun Try.prog 44 #[.agg #[ptrOf b, ptrOf c], .agg (clC y).toArray] H (fun v H' => v = .bool true ∧ ∃ U', B8E H' U' b c (m + 1) ∧ Ch U U' H H') := by
  refine fun_of mixed (args := [_, _]) Try.func44 Try.ntmps44 b44 r44 rfl ?_
  obtain ⟨F, G, φ, s, r, h8, hops, hU⟩ := hB
  have bx0 := bx_new H b c y
  obtain ⟨⟨k, a, e, n, t, d, cu, o⟩, dv, cv⟩ := y
  simp only at hk
  subst hk
  have ltF := h8.lt.1
  have ltG := h8.lt.2
  obtain ⟨K, hK⟩ : ∃ K, K = (H.push (.cells #[.pointer (some ⟨b, 0, none⟩), .pointer (some ⟨c, 0, none⟩)] 51)).push (.cells #[.int .i64 12, .int .i64 a, .int .i64 e, .string n, .string t, dv, cv, .bool o] 75) := ⟨_, rfl⟩
  have bx : Bx H K b c ⟨⟨12, a, e, n, t, d, cu, o⟩, dv, cv⟩ := by rw [hK]; exact bx0
  clear bx0
  have k8 := h8.ext bx.ext
  have nF : ∀ x, (x = H.size ∨ x = H.size + 1) → ¬ F x := fun x hx hf => by have := ltF x hf; omega
  have nG : ∀ x, (x = H.size ∨ x = H.size + 1) → ¬ G x := fun x hx hf => by have := ltG x hf; omega
  have e2 : hgets K H.size 0 2 = some [.pointer (some ⟨b, 0, none⟩), .pointer (some ⟨c, 0, none⟩)] := hgets_of rfl fun j hj => by
    match j, hj with
    | 0, _ => exact bx.b0
    | 1, _ => exact bx.b1
  simp only [go_sem, ↓reduceIte, Nat.reduceEqDiff, Nat.reduceLeDiff, Nat.reduceAdd, Nat.reduceMul, Nat.reduceSub, Nat.reduceBEq, Nat.reduceGT, Nat.reduceLT, Int.reduceLE, Int.reduceLT, Int.reduceNeg, reduceCtorEq, ptrOf, clC, Int.reduceEq]
  rw [← hK]
  refine FunI.by (F27 k8.f h8.ok (by omega) k8.g (h8.sim.ok h8.ok h8.lim (by omega)) (h8.sim.tells h8.ok)) ?_
  rintro _ H1 ⟨rfl, x1⟩
  simp only [go_sem, ↓reduceIte, Nat.reduceEqDiff, Nat.reduceLeDiff, Nat.reduceAdd, Nat.reduceMul, Nat.reduceSub, Nat.reduceBEq, Nat.reduceGT, Nat.reduceLT, Int.reduceLE, Int.reduceLT, Int.reduceNeg, reduceCtorEq]
  exact (k8.ext x1).same (bx.ext.trans (x1.mono bx.ext.size)) hU (by omega)
end
end Go.Proofs.Ytmkheogjnlmkdaa
