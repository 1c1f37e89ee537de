/- The reference: New. -/
import Derived.Test.YtmkheogjnlmkdaaVRfM
set_option linter.unusedSimpArgs false
set_option linter.unusedVariables false
set_option maxRecDepth 20000
namespace Go.Proofs.Ytmkheogjnlmkdaa
open Go Go.V
-- 26: pith/pithref8.New
-- 100: pithref8.FS
-- 125: pithref8.Entry
-- 122: []pithref8.Entry
def freshR (room : Int) : RSt := ⟨room, [], [[]], [], false, 0, 0⟩
theorem F26 (room : Int) (H : Heap) :
    Fun Try.prog 26 #[.int .i64 room] H (fun v H' => Ext H H' ∧ if room < 0 ∨ 2147483647 < room then v = .pointer none else ∃ b F, v = ptrOf b ∧ RFsH H' F b (freshR room) ∧ ∀ g, F g → H.size ≤ g) := by
  refine fun_of mixed (args := [_]) Try.func26 Try.ntmps26 b26 r26 rfl ?_
  by_cases c0 : room < 0
  · simp only [go_sem, ↓reduceIte, Nat.reduceEqDiff, Nat.reduceLeDiff, Nat.reduceAdd, Nat.reduceMul, Nat.reduceSub, Nat.reduceBEq, Nat.reduceGT, Nat.reduceLT, Int.reduceLE, Int.reduceLT, Int.reduceNeg, reduceCtorEq, c0]
    rw [if_pos (.inl trivial)]
    exact ⟨Upto.refl _ _, trivial⟩
  by_cases c1 : 2147483647 < room
  · simp only [go_sem, ↓reduceIte, Nat.reduceEqDiff, Nat.reduceLeDiff, Nat.reduceAdd, Nat.reduceMul, Nat.reduceSub, Nat.reduceBEq, Nat.reduceGT, Nat.reduceLT, Int.reduceLE, Int.reduceLT, Int.reduceNeg, reduceCtorEq, c0, c1]
    rw [if_pos (.inr trivial)]
    exact ⟨Upto.refl _ _, trivial⟩
  simp only [go_sem, ↓reduceIte, Nat.reduceEqDiff, Nat.reduceLeDiff, Nat.reduceAdd, Nat.reduceMul, Nat.reduceSub, Nat.reduceBEq, Nat.reduceGT, Nat.reduceLT, Int.reduceLE, Int.reduceLT, Int.reduceNeg, reduceCtorEq, c0, c1]
  rw [if_neg (by simp)]
  have hs1 : (H.push (.cells #[Value.slice none 0 0] 122)).size = H.size + 1 := by simp
  have x1 : Ext H ((H.push (.cells #[Value.slice none 0 0] 122)).push (.cells (rC (freshR room) (.slice none 0 0) (.slice (some ⟨H.size, 0, none⟩) 1 1) (.slice none 0 0)) 100)) := Upto.push (Ext.push _) (by simp) _
  have k0 : ((H.push (.cells #[Value.slice none 0 0] 122)).push (.cells (rC (freshR room) (.slice none 0 0) (.slice (some ⟨H.size, 0, none⟩) 1 1) (.slice none 0 0)) 100))[H.size]? = some (.cells #[Value.slice none 0 0] 122) := by rw [push_old (by simp)]; exact push_new
  have k1 : ((H.push (.cells #[Value.slice none 0 0] 122)).push (.cells (rC (freshR room) (.slice none 0 0) (.slice (some ⟨H.size, 0, none⟩) 1 1) (.slice none 0 0)) 100))[H.size + 1]? = some (.cells (rC (freshR room) (.slice none 0 0) (.slice (some ⟨H.size, 0, none⟩) 1 1) (.slice none 0 0)) 100) := by rw [← hs1]; exact push_new
  have hsz : ((H.push (.cells #[Value.slice none 0 0] 122)).push (.cells (rC (freshR room) (.slice none 0 0) (.slice (some ⟨H.size, 0, none⟩) 1 1) (.slice none 0 0)) 100)).size = H.size + 2 := by simp
  refine ⟨x1, H.size + 1, fun g => H.size ≤ g ∧ g < H.size + 2, by rw [hs1]; rfl, ⟨.slice none 0 0, .slice (some ⟨H.size, 0, none⟩) 1 1, .slice none 0 0, [], [(.slice none 0 0, [])], ⟨rfl, rfl, k1, Own.nil, fun p hp => by simp at hp, by simp, ?_, fun q hq => ?_, Own.nil, ⟨by omega, by omega⟩, fun g hg => (by cases hg), fun g hg => (by cases hg; exact ⟨Nat.le_refl _, Nat.lt_add_of_pos_right (by omega)⟩), fun g hg => (by cases hg), fun g hg => ?_⟩⟩, fun g hg => hg.1⟩
  · exact .inr ⟨H.size, 1, 1, _, rfl, Nat.zero_le _, k0, Nat.le_refl _, by decide, rfl, rfl, rfl⟩
  · simp only [List.mem_singleton] at hq
    subst hq
    exact ⟨Own.nil, fun g hg => by cases hg⟩
  · have : _ := hg.2
    simp only [Array.size_push]
    omega
end Go.Proofs.Ytmkheogjnlmkdaa
