/- The laws' helper decodes. -/
import Derived.Test.YtcgejfmbhpmjfaaVHelp
import Derived.Test.YtcgejfmbhpmjfaaVRdecR
set_option linter.unusedSimpArgs false
set_option linter.unusedVariables false
set_option maxRecDepth 20000
namespace Go.Proofs.Ytcgejfmbhpmjfaa
open Go Go.V
-- 24: pith/pithlaw11.decodes
-- 23: pith/pithlaw11.num
-- 25: pith/pithref.Bytes
-- 22: pith/pithref.SameBytes
-- 15: pith/pithref.SamePairs
-- 33: pith/runs.Decode
-- 53: pith/pithref11.Decode
-- 3: int
-- 5: uint8
-- 30: []uint8
-- 24: pith/api.Pair
-- 22: []api.Pair
/-- A decoder's answer, in one way for both kinds. -/
theorem decA_form {H H' : Heap} {ys : List Int} {r : Value} (h : decA H ys r H') : Ext H H' ∧ ∃ (o : Option (List Pr)) (v : Value) (e : Int), (∀ l, o = some l ↔ encR l = (some ys, 0)) ∧ r = .tuple #[v, .int .i64 e] ∧ Own H' H.size 24 2 v (cp (o.getD [])) ∧ e = (if o.isSome then 0 else 90) := by
  obtain ⟨hx, o, ho, hr⟩ := h
  cases o with
  | none => exact ⟨hx, none, _, _, ho, hr, Own.nil, rfl⟩
  | some l =>
    obtain ⟨v, h1, h2⟩ := hr
    exact ⟨hx, some l, v, 0, ho, h1, h2, rfl⟩
theorem dec_unique {ys : List Int} {o o' : Option (List Pr)} (h : ∀ l, o = some l ↔ encR l = (some ys, 0)) (k : ∀ l, o' = some l ↔ encR l = (some ys, 0)) : o = o' := by
  cases o with
  | none =>
    cases o' with
    | none => rfl
    | some l => exact absurd ((h l).2 ((k l).1 rfl)) (by simp)
  | some l => exact ((k l).2 ((h l).1 rfl)).symm
theorem enc_len {l : List Pr} {ys : List Int} (h : encR l = (some ys, 0)) : l.length ≤ 100 := by
  unfold encR at h
  split at h
  · cases h
  · omega
theorem dec_len {ys : List Int} {o : Option (List Pr)} (h : ∀ l, o = some l ↔ encR l = (some ys, 0)) : (o.getD []).length ≤ 100 := by
  cases o with
  | none => simp
  | some l => exact enc_len ((h l).1 rfl)
set_option maxHeartbeats 800000 in
theorem F24 (v : Value) (ys : List Int) (H : Heap) (hv : Ints H 5 .u8 v ys) (hw : Byt ys) (hl : ys.length ≤ 100000000) :
    Fun Try.prog 24 #[v] H (fun r H' => r = .bool true ∧ Ext H H') := by
  obtain ⟨a, c, rfl⟩ := hv.form
  refine fun_of mixed (args := [_]) Try.func24 Try.ntmps24 b24 r24 rfl ?_
  simp only [go_sem, ↓reduceIte, Nat.reduceEqDiff, Nat.reduceLeDiff, Nat.reduceAdd, Nat.reduceMul, Nat.reduceSub, Nat.reduceBEq, Nat.reduceGT, Nat.reduceLT, Int.reduceLE, Int.reduceLT, Int.reduceNeg, reduceCtorEq]
  refine FunI.by (F25 _ ys H hv (by omega)) ?_
  rintro v1 H1 ⟨o1, x1⟩
  simp only [go_sem, ↓reduceIte, Nat.reduceEqDiff, Nat.reduceLeDiff, Nat.reduceAdd, Nat.reduceMul, Nat.reduceSub, Nat.reduceBEq, Nat.reduceGT, Nat.reduceLT, Int.reduceLE, Int.reduceLT, Int.reduceNeg, reduceCtorEq]
  refine RunI.by (append_lit ty30 ty5 rfl (by decide) o1 (ys := [.int .u8 201, .int .u8 202]) (m := 2) rfl rfl (n := ys.length + 2) (by simp) (by show (ys.length + 2) * 1 ≤ _; omega) (by omega) x1.size) ?_
  rintro v2 H2 ⟨o2, g2, _⟩
  have x2 : Ext H H2 := x1.trans (g2.upto o1 x1.size)
  rw [show ys.map (Value.int .u8) ++ [.int .u8 201, .int .u8 202] = (ys ++ [201, 202]).map (Value.int .u8) by simp] at o2
  obtain ⟨g, cap, rfl, hc⟩ : ∃ g cap, v2 = .slice (some ⟨g, 0, none⟩) (ys.length + 2) cap ∧ ys.length + 2 ≤ cap := by
    rcases o2 with ⟨_, h⟩ | ⟨g, len, cap, c, rfl, _, _, hlc, _, _, hl, _⟩
    · simp at h
    · simp at hl
      exact ⟨g, cap, by rw [hl], by omega⟩
  have oc := o2.cut (n := ys.length) (by omega)
  rw [Nat.mul_one, ← List.map_take, List.take_left] at oc
  have z0 : (0 : Int) ≤ ys.length := by omega
  have z1 : (ys.length : Int) ≤ cap := by omega
  have z2 : (ys.length : Int) < ((ys.length + 2 : Nat) : Int) := by omega
  have z3 : (0 : Int) ≤ ((ys.length + 1 : Nat) : Int) := by omega
  have z4 : ((ys.length + 1 : Nat) : Int) < ((ys.length + 2 : Nat) : Int) := by omega
  have w1 : IntKind.i64.wrap ((ys.length : Int) + 1) = ((ys.length + 1 : Nat) : Int) := by rw [w64_id (by omega) (by omega)]; omega
  simp only [go_sem, ↓reduceIte, Nat.reduceEqDiff, Nat.reduceLeDiff, Nat.reduceAdd, Nat.reduceMul, Nat.reduceSub, Nat.reduceBEq, Nat.reduceGT, Nat.reduceLT, Int.reduceLE, Int.reduceLT, Int.reduceNeg, reduceCtorEq, z0, z1, Int.toNat_natCast, show Int.toNat 0 = 0 from rfl]
  refine FunI.by (F33 _ ys H2 oc.sl hw (by omega)) ?_
  intro r3 H3 h3
  obtain ⟨x3, oo, v3, e3, hoo, rfl, o3, he3⟩ := decA_form h3
  simp only [go_sem, ↓reduceIte, Nat.reduceEqDiff, Nat.reduceLeDiff, Nat.reduceAdd, Nat.reduceMul, Nat.reduceSub, Nat.reduceBEq, Nat.reduceGT, Nat.reduceLT, Int.reduceLE, Int.reduceLT, Int.reduceNeg, reduceCtorEq]
  refine FunI.by (F53 _ ys H3 (Ints.ext (Ints.ext hv x2) x3) hw (by omega)) ?_
  intro r4 H4 h4
  obtain ⟨x4, oo', v4, e4, hoo', rfl, o4, he4⟩ := decA_form h4
  have := dec_unique hoo hoo'
  subst this
  rw [← he3] at he4
  subst he4
  simp only [go_sem, ↓reduceIte, Nat.reduceEqDiff, Nat.reduceLeDiff, Nat.reduceAdd, Nat.reduceMul, Nat.reduceSub, Nat.reduceBEq, Nat.reduceGT, Nat.reduceLT, Int.reduceLE, Int.reduceLT, Int.reduceNeg, reduceCtorEq]
  refine FunI.by (F15 _ _ (oo.getD []) (oo.getD []) H4 (prs_own (o3.ext x4)) (prs_own o4) (by have := dec_len hoo; omega)) ?_
  rintro _ _ ⟨rfl, rfl⟩
  simp only [go_sem, ↓reduceIte, Nat.reduceEqDiff, Nat.reduceLeDiff, Nat.reduceAdd, Nat.reduceMul, Nat.reduceSub, Nat.reduceBEq, Nat.reduceGT, Nat.reduceLT, Int.reduceLE, Int.reduceLT, Int.reduceNeg, reduceCtorEq, decide_true]
  refine FunI.by (F23 e4 H4) ?_
  rintro _ _ ⟨rfl, rfl⟩
  simp only [go_sem, ↓reduceIte, Nat.reduceEqDiff, Nat.reduceLeDiff, Nat.reduceAdd, Nat.reduceMul, Nat.reduceSub, Nat.reduceBEq, Nat.reduceGT, Nat.reduceLT, Int.reduceLE, Int.reduceLT, Int.reduceNeg, reduceCtorEq, decide_true]
  have x : Ext H H4 := (x2.trans (x3.mono x2.size)).trans (x4.mono (Nat.le_trans x2.size x3.size))
  replace oc := (oc.ext x3).ext x4
  replace o2 := (o2.ext x3).ext x4
  refine ⟨⟨z0, z1⟩, ?_⟩
  refine FunI.by (F22 _ _ ys ys H4 oc.sl (Ints.ext hv x) hw hw) ?_
  rintro _ _ ⟨rfl, rfl⟩
  have p1 := Ints.get o2.sl (i := ys.length) (by simp)
  have p2 := Ints.get o2.sl (i := ys.length + 1) (by simp)
  have i1 : (ys ++ [(201 : Int), 202]).getD ys.length 0 = 201 := by simp
  have i2 : (ys ++ [(201 : Int), 202]).getD (ys.length + 1) 0 = 202 := by simp
  rw [Nat.zero_add, i1] at p1
  rw [Nat.zero_add, i2] at p2
  simp only [go_sem, ↓reduceIte, Nat.reduceEqDiff, Nat.reduceLeDiff, Nat.reduceAdd, Nat.reduceMul, Nat.reduceSub, Nat.reduceBEq, Nat.reduceGT, Nat.reduceLT, Int.reduceLE, Int.reduceLT, Int.reduceNeg, reduceCtorEq, decide_true, z0, z2, z3, z4, w1, p1, p2, Int.toNat_natCast]
  exact x
end Go.Proofs.Ytcgejfmbhpmjfaa
