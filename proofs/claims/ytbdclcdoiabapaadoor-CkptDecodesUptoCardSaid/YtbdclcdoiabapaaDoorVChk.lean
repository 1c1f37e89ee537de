/- pithref.Check copies a check: the copy holds the same, in new blocks; for at most 5000 numbers and bits. -/
import Derived.Test.YtbdclcdoiabapaaDoorVRenc
set_option linter.unusedSimpArgs false
set_option linter.unusedVariables false
namespace Go.Proofs.YtbdclcdoiabapaaDoor
open Go Go.V
-- 12: pith/pithref.Check
-- 27: pith/pithref.Ints
-- 28: pith/pithref.Bools
-- 4: bool
-- 28: pith/api.Check
-- 3: int

theorem F12 (v : Value) (p : Int) (xs : List Int) (ds : List Bool) (H : Heap) (hv : Chk H 3 4 v p xs ds) (hl : xs.length ≤ 5000) (hl2 : ds.length ≤ 5000) :
    Fun Tryd.prog 12 #[v] H (fun r H' => Ext H H' ∧ Chk H' 3 4 r p xs ds) := by
  have hv' := hv
  obtain ⟨a, b, rfl, ha, hb⟩ := hv
  obtain ⟨a1, a2, rfl⟩ := ha.form
  obtain ⟨b1, b2, rfl⟩ := hb.form
  refine fun_of mixed (args := [_]) Tryd.func12 Tryd.ntmps12 b12 r12 rfl ?_
  have x1 : Ext H ((H.push (.cells #[.int .i64 p, .slice a1 xs.length a2, .slice b1 ds.length b2] 28)).push (.cells #[.int .i64 0, .slice none 0 0, .slice none 0 0] 28)) := (Ext.push _).trans ((Ext.push _).mono (by simp))
  have gb : ((H.push (.cells #[.int .i64 p, .slice a1 xs.length a2, .slice b1 ds.length b2] 28)).push (.cells #[.int .i64 0, .slice none 0 0, .slice none 0 0] 28))[H.size + 1]? = some (.cells #[.int .i64 0, .slice none 0 0, .slice none 0 0] 28) := by
    rw [show H.size + 1 = (H.push (Obj.cells #[.int .i64 p, .slice a1 xs.length a2, .slice b1 ds.length b2] 28)).size by simp]
    exact push_new
  simp only [go_sem, ↓reduceIte, Nat.reduceEqDiff, Nat.reduceLeDiff, Nat.reduceAdd, Nat.reduceMul, Nat.reduceSub, Nat.reduceBEq, Nat.reduceGT, Nat.reduceLT, Int.reduceLE, Int.reduceLT, Int.reduceNeg, reduceCtorEq, ext_push, ext_refl]
  refine FunI.by (F27 _ xs _ (ha.ext x1) (by omega)) ?_
  rintro u1 H1 ⟨hu1, hx1⟩
  simp only [go_sem, ↓reduceIte, Nat.reduceEqDiff, Nat.reduceLeDiff, Nat.reduceAdd, Nat.reduceMul, Nat.reduceSub, Nat.reduceBEq, Nat.reduceGT, Nat.reduceLT, Int.reduceLE, Int.reduceLT, Int.reduceNeg, reduceCtorEq]
  refine ⟨hx1, FunI.by (F28 _ ds H1 (hb.ext (x1.trans (hx1.mono x1.size))) (by omega)) ?_⟩
  rintro u2 H2 ⟨hu2, hx2⟩
  obtain ⟨_, _, rfl⟩ := (show Ints H1 3 .i64 u1 xs from hu1.sl).form
  obtain ⟨_, _, rfl⟩ := (show Bls H2 4 u2 ds from hu2.sl).form
  have gb2 := ((hx1.trans (hx2.mono hx1.size)).get (H.size + 1) (by simp)).trans gb
  simp only [go_sem, ↓reduceIte, Nat.reduceEqDiff, Nat.reduceLeDiff, Nat.reduceAdd, Nat.reduceMul, Nat.reduceSub, Nat.reduceBEq, Nat.reduceGT, Nat.reduceLT, Int.reduceLE, Int.reduceLT, Int.reduceNeg, reduceCtorEq]
  refine ⟨hx1.trans (hx2.mono hx1.size), ?_⟩
  have hsz : (H.push (Obj.cells #[.int .i64 p, .slice a1 xs.length a2, .slice b1 ds.length b2] 28)).size = H.size + 1 := by simp
  simp only [hsz]
  have hxa := x1.trans ((hx1.trans (hx2.mono hx1.size)).mono x1.size)
  have hex := fun vs => hxa.hput (b := H.size + 1) (o := 0) (vs := vs) (by omega)
  refine ⟨rfl, hcan_of gb2 (by simp), ?_⟩
  simp only [loadV, ty28]
  refine ⟨_, hgets_put gb2 (by simp) (by rfl), hex _, _, _, rfl, ?_, ?_⟩
  · refine ((hu1.ext hx2).keepT fun b c fr hb => hput_other _ _ _ _ fun he => ?_).sl
    subst he
    rw [gb2] at hb
    cases hb
  · refine (hu2.keepT fun b c fr hb => hput_other _ _ _ _ fun he => ?_).sl
    subst he
    rw [gb2] at hb
    cases hb
end Go.Proofs.YtbdclcdoiabapaaDoor
