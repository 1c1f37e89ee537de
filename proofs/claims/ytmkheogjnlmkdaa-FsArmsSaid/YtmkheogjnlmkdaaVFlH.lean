/- The law FsArms, over heaps. -/
import Derived.Test.YtmkheogjnlmkdaaVFlG
import Derived.Test.YtmkheogjnlmkdaaVFlS
import Derived.Test.YtmkheogjnlmkdaaVRowG
set_option linter.unusedSimpArgs false
set_option linter.unusedVariables false
set_option maxRecDepth 20000
namespace Go.Proofs.Ytmkheogjnlmkdaa
open Go Go.V Go.ChangeShapes Go.WideShapes Go.ChangeAt Go.RowKit
-- 6: pith/pithlaw8.FsArms
-- 11: pith/pithlaw8.first
-- 22: pith/pithlaw8.num
-- 12: pith/fs.New
-- 14: pith/pithlaw8.does
-- 28: (*pith/fs.FS).Arm
-- 29: (*pith/fs.FS).Power
-- 30: (*pith/fs.FS).Ops
-- 31: (*pith/fs.FS).Read
-- 32: (*pith/fs.FS).Size
-- 33: (*pith/fs.FS).Names
-- 25: (*pith/fs.FS).Crash
-- 34: (*pith/fs.FS).SyncDir
-- 3: int
-- 30: pithlaw8.Step
theorem and_255 (x : Int) : 0 ≤ ibits .and .i64 x 255 ∧ ibits .and .i64 x 255 ≤ 255 := by
  show 0 ≤ IntKind.i64.wrap (((BitVec.ofInt 64 x &&& BitVec.ofInt 64 255).toNat : Nat) : Int) ∧ IntKind.i64.wrap (((BitVec.ofInt 64 x &&& BitVec.ofInt 64 255).toNat : Nat) : Int) ≤ 255
  have h : (BitVec.ofInt 64 x &&& BitVec.ofInt 64 255).toNat ≤ 255 := by
    rw [BitVec.toNat_and]
    exact Nat.and_le_right
  rw [w64_id (by omega) (by omega)]
  omega
set_option maxHeartbeats 6400000 in
theorem F6 (v : Value) (os : List Stp) (k again : Int) (H : Heap) (hv : Steps H v os) (hf : ∀ t ∈ os, 0 ≤ t.fill ∧ t.fill < 256) (hk : IntR .i64 k) (ha : IntR .i64 again) :
    Fun Try.prog 6 #[v, .int .i64 k, .int .i64 again] H (fun r H' => r = .bool true ∧ Ext H H') := by
  replace hk : k < 9223372036854775808 := (i64_rng hk).2
  obtain ⟨a, c, rfl⟩ := steps_form hv
  refine fun_of mixed (args := [_, _, _]) Try.func6 Try.ntmps6 b6 r6 rfl ?_
  simp only [go_sem, ↓reduceIte, Nat.reduceEqDiff, Nat.reduceLeDiff, Nat.reduceAdd, Nat.reduceMul, Nat.reduceSub, Nat.reduceBEq, Nat.reduceGT, Nat.reduceLT, Int.reduceLE, Int.reduceLT, Int.reduceNeg, reduceCtorEq]
  refine FunI.by (F11 H) ?_
  rintro _ H1 ⟨rfl, x1⟩
  simp only [go_sem, ↓reduceIte, Nat.reduceEqDiff, Nat.reduceLeDiff, Nat.reduceAdd, Nat.reduceMul, Nat.reduceSub, Nat.reduceBEq, Nat.reduceGT, Nat.reduceLT, Int.reduceLE, Int.reduceLT, Int.reduceNeg, reduceCtorEq]
  refine FunI.by (F12 2147483647 H1 trivial) ?_
  rintro f H2 ⟨x2, h⟩
  have x12 := x1.trans (x2.mono x1.size)
  rw [if_neg (by omega)] at h
  obtain ⟨b, F, rfl, h2, n2⟩ := h
  have N2 : Newly H H2 F := ⟨x12, fun g hg => Nat.le_trans x1.size (n2 g hg)⟩
  by_cases hk1 : k < 1
  · simp only [go_sem, ↓reduceIte, Nat.reduceEqDiff, Nat.reduceLeDiff, Nat.reduceAdd, Nat.reduceMul, Nat.reduceSub, Nat.reduceBEq, Nat.reduceGT, Nat.reduceLT, Int.reduceLE, Int.reduceLT, Int.reduceNeg, reduceCtorEq, ptrOf, hk1]
    exact x12
  have hk2 : 1 ≤ k := by omega
  simp only [go_sem, ↓reduceIte, Nat.reduceEqDiff, Nat.reduceLeDiff, Nat.reduceAdd, Nat.reduceMul, Nat.reduceSub, Nat.reduceBEq, Nat.reduceGT, Nat.reduceLT, Int.reduceLE, Int.reduceLT, Int.reduceNeg, reduceCtorEq, ptrOf, hk1]
  obtain ⟨q1, q2⟩ := and_255 again
  refine FunI.by (F28 h2 _) ?_
  rintro _ H3 ⟨rfl, h3, c3⟩
  have e1 : armS (freshS 2147483647) (ibits .and .i64 again 255) = ({ freshS 2147483647 with fuse := ibits .and .i64 again 255 }, 0) := by
    unfold armS; rw [if_neg (by omega), if_neg (by simp [freshS])]
  have ok3 := arm_ok (fresh_ok (room := 2147483647) (by omega)) (k := ibits .and .i64 again 255) (by omega)
  rw [e1] at h3 ok3 ⊢
  have N3 := N2.ch c3
  simp only [go_sem, ↓reduceIte, Nat.reduceEqDiff, Nat.reduceLeDiff, Nat.reduceAdd, Nat.reduceMul, Nat.reduceSub, Nat.reduceBEq, Nat.reduceGT, Nat.reduceLT, Int.reduceLE, Int.reduceLT, Int.reduceNeg, reduceCtorEq, ptrOf]
  refine FunI.by (F28 h3 k) ?_
  rintro _ H4 ⟨rfl, h4, c4⟩
  have e2 : armS { freshS 2147483647 with fuse := ibits .and .i64 again 255 } k = ({ freshS 2147483647 with fuse := k }, 0) := by
    unfold armS; rw [if_neg (by omega), if_neg (by simp [freshS])]
  have ok4 := arm_ok ok3 (k := k) hk
  rw [e2] at h4 ok4 ⊢
  have N4 := N3.ch c4
  simp only [go_sem, ↓reduceIte, Nat.reduceEqDiff, Nat.reduceLeDiff, Nat.reduceAdd, Nat.reduceMul, Nat.reduceSub, Nat.reduceBEq, Nat.reduceGT, Nat.reduceLT, Int.reduceLE, Int.reduceLT, Int.reduceNeg, reduceCtorEq, ptrOf]
  refine LoopI.by mixed (fun ρ H' => ∃ (i d : Nat) (s : St) (F : Nat → Prop), ρ 0 = .slice a os.length c ∧ ρ 1 = .int .i64 k ∧ ρ 8 = ptrOf b ∧ ρ 9 = .int .i64 0 ∧ ρ 10 = .int .i64 0 ∧ ρ 11 = .int .i64 d ∧ ρ 12 = .int .i64 i ∧ i ≤ os.length ∧ i ≤ 300 ∧ d ≤ i ∧
    FsH H' F b s ∧ Ok s ∧ s.ops = d ∧ ((d < k ∧ s.off = false ∧ s.fuse = k - d) ∨ ((d : Int) = k ∧ s.off = true)) ∧ Newly H H' F) (fun ρ _ => os.length - (iof (ρ 12)).toNat) ?_ ?_
  · exact ⟨0, 0, _, F, by simp only [go_sem, ↓reduceIte, Nat.reduceEqDiff, Nat.reduceLeDiff, Nat.reduceAdd, Nat.reduceMul, Nat.reduceSub, Nat.reduceBEq, Nat.reduceGT, Nat.reduceLT, Int.reduceLE, Int.reduceLT, Int.reduceNeg, reduceCtorEq], by simp only [go_sem, ↓reduceIte, Nat.reduceEqDiff, Nat.reduceLeDiff, Nat.reduceAdd, Nat.reduceMul, Nat.reduceSub, Nat.reduceBEq, Nat.reduceGT, Nat.reduceLT, Int.reduceLE, Int.reduceLT, Int.reduceNeg, reduceCtorEq], by simp only [go_sem, ↓reduceIte, Nat.reduceEqDiff, Nat.reduceLeDiff, Nat.reduceAdd, Nat.reduceMul, Nat.reduceSub, Nat.reduceBEq, Nat.reduceGT, Nat.reduceLT, Int.reduceLE, Int.reduceLT, Int.reduceNeg, reduceCtorEq, ptrOf], by simp only [go_sem, ↓reduceIte, Nat.reduceEqDiff, Nat.reduceLeDiff, Nat.reduceAdd, Nat.reduceMul, Nat.reduceSub, Nat.reduceBEq, Nat.reduceGT, Nat.reduceLT, Int.reduceLE, Int.reduceLT, Int.reduceNeg, reduceCtorEq], by simp only [go_sem, ↓reduceIte, Nat.reduceEqDiff, Nat.reduceLeDiff, Nat.reduceAdd, Nat.reduceMul, Nat.reduceSub, Nat.reduceBEq, Nat.reduceGT, Nat.reduceLT, Int.reduceLE, Int.reduceLT, Int.reduceNeg, reduceCtorEq], by simp only [go_sem, ↓reduceIte, Nat.reduceEqDiff, Nat.reduceLeDiff, Nat.reduceAdd, Nat.reduceMul, Nat.reduceSub, Nat.reduceBEq, Nat.reduceGT, Nat.reduceLT, Int.reduceLE, Int.reduceLT, Int.reduceNeg, reduceCtorEq] <;> rfl, by simp only [go_sem, ↓reduceIte, Nat.reduceEqDiff, Nat.reduceLeDiff, Nat.reduceAdd, Nat.reduceMul, Nat.reduceSub, Nat.reduceBEq, Nat.reduceGT, Nat.reduceLT, Int.reduceLE, Int.reduceLT, Int.reduceNeg, reduceCtorEq] <;> rfl, by omega, by omega, by omega, h4, ok4, rfl, .inl ⟨by omega, rfl, by show k = k - ((0 : Nat) : Int); omega⟩, N4⟩
  clear h2 N2 n2 x12 x1 x2 h3 h4 ok3 ok4 c3 c4 N3 N4
  rintro ρ H' ⟨i, d, s, F, e0, e1, e8, e9, e10, e11, e12, hi, hi3, hd, hfs, ok, hops, hpow, nw⟩
  by_cases hlt : i < os.length ∧ i < 300
  · obtain ⟨hl1, hl2⟩ := hlt
    obtain ⟨t, hti⟩ : ∃ t, os[i]? = some t := ⟨_, List.getElem?_eq_getElem hl1⟩
    have htf := hf t (List.mem_of_getElem? hti)
    have hst : ∀ {G : Heap}, Ext H G → Steps G (.slice a os.length c) os := fun x => Sl.ext hv x
    obtain ⟨g, o, rfl, _⟩ := steps_at (hst nw.1) hti
    have sg : ∀ {G : Heap}, Ext H G → hget G g (o + i * 5) = some (.int .i64 t.kind) ∧ hget G g (o + i * 5 + 1) = some (.int .i64 t.i) ∧ hget G g (o + i * 5 + 2) = some (.int .i64 t.k) ∧ hget G g (o + i * 5 + 3) = some (.int .i64 t.many) ∧ hget G g (o + i * 5 + 4) = some (.int .u8 t.fill) := fun x => by
      obtain ⟨g', o', e, h⟩ := steps_at (hst x) hti
      cases e
      exact h
    obtain ⟨k0, k1, k2, k3, k4⟩ := sg nw.1
    have c0 : (0 : Int) ≤ i := by omega
    have c1 : (i : Int) < os.length := by omega
    have c2 : (i : Int) < 300 := by omega
    have w2 : IntKind.i64.wrap ((i : Int) + 1) = ((i + 1 : Nat) : Int) := by rw [w64_id (by omega) (by omega)]; omega
    have w3 : IntKind.i64.wrap ((d : Int) + 1) = ((d + 1 : Nat) : Int) := by rw [w64_id (by omega) (by omega)]; omega
    by_cases hk6 : 1 ≤ t.kind ∧ t.kind ≤ 6
    case neg =>
      have same : ∃ (i d : Nat) (s : St) (F : Nat → Prop), True := ⟨0, 0, s, F, trivial⟩
      by_cases hz : t.kind < 1
      · simp only [go_sem, ↓reduceIte, Nat.reduceEqDiff, Nat.reduceLeDiff, Nat.reduceAdd, Nat.reduceMul, Nat.reduceSub, Nat.reduceBEq, Nat.reduceGT, Nat.reduceLT, Int.reduceLE, Int.reduceLT, Int.reduceNeg, reduceCtorEq, c6_L0, e0, e1, e8, e9, e10, e11, e12, c0, c1, c2, Int.toNat_natCast, k0, hz, w2]
        exact ⟨Hold.mk ⟨i + 1, d, s, F, by simp only [go_sem, ↓reduceIte, Nat.reduceEqDiff, Nat.reduceLeDiff, Nat.reduceAdd, Nat.reduceMul, Nat.reduceSub, Nat.reduceBEq, Nat.reduceGT, Nat.reduceLT, Int.reduceLE, Int.reduceLT, Int.reduceNeg, reduceCtorEq, e0], by simp only [go_sem, ↓reduceIte, Nat.reduceEqDiff, Nat.reduceLeDiff, Nat.reduceAdd, Nat.reduceMul, Nat.reduceSub, Nat.reduceBEq, Nat.reduceGT, Nat.reduceLT, Int.reduceLE, Int.reduceLT, Int.reduceNeg, reduceCtorEq, e1], by simp only [go_sem, ↓reduceIte, Nat.reduceEqDiff, Nat.reduceLeDiff, Nat.reduceAdd, Nat.reduceMul, Nat.reduceSub, Nat.reduceBEq, Nat.reduceGT, Nat.reduceLT, Int.reduceLE, Int.reduceLT, Int.reduceNeg, reduceCtorEq, e8], by simp only [go_sem, ↓reduceIte, Nat.reduceEqDiff, Nat.reduceLeDiff, Nat.reduceAdd, Nat.reduceMul, Nat.reduceSub, Nat.reduceBEq, Nat.reduceGT, Nat.reduceLT, Int.reduceLE, Int.reduceLT, Int.reduceNeg, reduceCtorEq, e9], by simp only [go_sem, ↓reduceIte, Nat.reduceEqDiff, Nat.reduceLeDiff, Nat.reduceAdd, Nat.reduceMul, Nat.reduceSub, Nat.reduceBEq, Nat.reduceGT, Nat.reduceLT, Int.reduceLE, Int.reduceLT, Int.reduceNeg, reduceCtorEq, e10], by simp only [go_sem, ↓reduceIte, Nat.reduceEqDiff, Nat.reduceLeDiff, Nat.reduceAdd, Nat.reduceMul, Nat.reduceSub, Nat.reduceBEq, Nat.reduceGT, Nat.reduceLT, Int.reduceLE, Int.reduceLT, Int.reduceNeg, reduceCtorEq, e11], by simp only [go_sem, ↓reduceIte, Nat.reduceEqDiff, Nat.reduceLeDiff, Nat.reduceAdd, Nat.reduceMul, Nat.reduceSub, Nat.reduceBEq, Nat.reduceGT, Nat.reduceLT, Int.reduceLE, Int.reduceLT, Int.reduceNeg, reduceCtorEq], by omega, by omega, by omega, hfs, ok, hops, hpow, nw⟩, by omega⟩
      · have hz2 : (6 : Int) < t.kind := by omega
        simp only [go_sem, ↓reduceIte, Nat.reduceEqDiff, Nat.reduceLeDiff, Nat.reduceAdd, Nat.reduceMul, Nat.reduceSub, Nat.reduceBEq, Nat.reduceGT, Nat.reduceLT, Int.reduceLE, Int.reduceLT, Int.reduceNeg, reduceCtorEq, c6_L0, e0, e1, e8, e9, e10, e11, e12, c0, c1, c2, Int.toNat_natCast, k0, hz, hz2, w2]
        exact ⟨Hold.mk ⟨i + 1, d, s, F, by simp only [go_sem, ↓reduceIte, Nat.reduceEqDiff, Nat.reduceLeDiff, Nat.reduceAdd, Nat.reduceMul, Nat.reduceSub, Nat.reduceBEq, Nat.reduceGT, Nat.reduceLT, Int.reduceLE, Int.reduceLT, Int.reduceNeg, reduceCtorEq, e0], by simp only [go_sem, ↓reduceIte, Nat.reduceEqDiff, Nat.reduceLeDiff, Nat.reduceAdd, Nat.reduceMul, Nat.reduceSub, Nat.reduceBEq, Nat.reduceGT, Nat.reduceLT, Int.reduceLE, Int.reduceLT, Int.reduceNeg, reduceCtorEq, e1], by simp only [go_sem, ↓reduceIte, Nat.reduceEqDiff, Nat.reduceLeDiff, Nat.reduceAdd, Nat.reduceMul, Nat.reduceSub, Nat.reduceBEq, Nat.reduceGT, Nat.reduceLT, Int.reduceLE, Int.reduceLT, Int.reduceNeg, reduceCtorEq, e8], by simp only [go_sem, ↓reduceIte, Nat.reduceEqDiff, Nat.reduceLeDiff, Nat.reduceAdd, Nat.reduceMul, Nat.reduceSub, Nat.reduceBEq, Nat.reduceGT, Nat.reduceLT, Int.reduceLE, Int.reduceLT, Int.reduceNeg, reduceCtorEq, e9], by simp only [go_sem, ↓reduceIte, Nat.reduceEqDiff, Nat.reduceLeDiff, Nat.reduceAdd, Nat.reduceMul, Nat.reduceSub, Nat.reduceBEq, Nat.reduceGT, Nat.reduceLT, Int.reduceLE, Int.reduceLT, Int.reduceNeg, reduceCtorEq, e10], by simp only [go_sem, ↓reduceIte, Nat.reduceEqDiff, Nat.reduceLeDiff, Nat.reduceAdd, Nat.reduceMul, Nat.reduceSub, Nat.reduceBEq, Nat.reduceGT, Nat.reduceLT, Int.reduceLE, Int.reduceLT, Int.reduceNeg, reduceCtorEq, e11], by simp only [go_sem, ↓reduceIte, Nat.reduceEqDiff, Nat.reduceLeDiff, Nat.reduceAdd, Nat.reduceMul, Nat.reduceSub, Nat.reduceBEq, Nat.reduceGT, Nat.reduceLT, Int.reduceLE, Int.reduceLT, Int.reduceNeg, reduceCtorEq], by omega, by omega, by omega, hfs, ok, hops, hpow, nw⟩, by omega⟩
    have hz1 : ¬ t.kind < 1 := by omega
    have hz2 : ¬ (6 : Int) < t.kind := by omega
    simp only [go_sem, ↓reduceIte, Nat.reduceEqDiff, Nat.reduceLeDiff, Nat.reduceAdd, Nat.reduceMul, Nat.reduceSub, Nat.reduceBEq, Nat.reduceGT, Nat.reduceLT, Int.reduceLE, Int.reduceLT, Int.reduceNeg, reduceCtorEq, c6_L0, e0, e1, e8, e9, e10, e11, e12, c0, c1, c2, Int.toNat_natCast, hgets5, k0, k1, k2, k3, k4, Option.bind_some, hz1, hz2, w2]
    refine FunI.by (F14 hfs ok (by omega) t htf) ?_
    rintro _ H5 ⟨x, hx, rfl, F5, h5, ch5⟩
    have nw5 := nw.ch ch5
    have ok5 := does_ok ok t hx
    rcases hpow with ⟨hdk, ho, hfu⟩ | ⟨hdk, ho⟩
    · have cd : ¬ k ≤ (d : Int) := by omega
      rcases does_arm ho (by omega) t x hk6 with ⟨hs, hn0, hn81⟩ | ⟨hf1, he, hf5, ho5, hop⟩ | ⟨hf1, he, hf5, ho5, hop⟩
      · rw [hs] at h5
        simp only [go_sem, ↓reduceIte, Nat.reduceEqDiff, Nat.reduceLeDiff, Nat.reduceAdd, Nat.reduceMul, Nat.reduceSub, Nat.reduceBEq, Nat.reduceGT, Nat.reduceLT, Int.reduceLE, Int.reduceLT, Int.reduceNeg, reduceCtorEq, e0, e1, e8, e9, e10, e11, e12, cd, hn0, hn81, w2]
        refine FunI.by (F30 h5) ?_
        rintro _ _ ⟨rfl, rfl⟩
        simp only [go_sem, ↓reduceIte, Nat.reduceEqDiff, Nat.reduceLeDiff, Nat.reduceAdd, Nat.reduceMul, Nat.reduceSub, Nat.reduceBEq, Nat.reduceGT, Nat.reduceLT, Int.reduceLE, Int.reduceLT, Int.reduceNeg, reduceCtorEq, e0, e1, e8, e9, e10, e11, e12, hops, w2]
        exact ⟨Hold.mk ⟨i + 1, d, s, F5, by simp only [go_sem, ↓reduceIte, Nat.reduceEqDiff, Nat.reduceLeDiff, Nat.reduceAdd, Nat.reduceMul, Nat.reduceSub, Nat.reduceBEq, Nat.reduceGT, Nat.reduceLT, Int.reduceLE, Int.reduceLT, Int.reduceNeg, reduceCtorEq, e0], by simp only [go_sem, ↓reduceIte, Nat.reduceEqDiff, Nat.reduceLeDiff, Nat.reduceAdd, Nat.reduceMul, Nat.reduceSub, Nat.reduceBEq, Nat.reduceGT, Nat.reduceLT, Int.reduceLE, Int.reduceLT, Int.reduceNeg, reduceCtorEq, e1], by simp only [go_sem, ↓reduceIte, Nat.reduceEqDiff, Nat.reduceLeDiff, Nat.reduceAdd, Nat.reduceMul, Nat.reduceSub, Nat.reduceBEq, Nat.reduceGT, Nat.reduceLT, Int.reduceLE, Int.reduceLT, Int.reduceNeg, reduceCtorEq, e8], by simp only [go_sem, ↓reduceIte, Nat.reduceEqDiff, Nat.reduceLeDiff, Nat.reduceAdd, Nat.reduceMul, Nat.reduceSub, Nat.reduceBEq, Nat.reduceGT, Nat.reduceLT, Int.reduceLE, Int.reduceLT, Int.reduceNeg, reduceCtorEq, e9], by simp only [go_sem, ↓reduceIte, Nat.reduceEqDiff, Nat.reduceLeDiff, Nat.reduceAdd, Nat.reduceMul, Nat.reduceSub, Nat.reduceBEq, Nat.reduceGT, Nat.reduceLT, Int.reduceLE, Int.reduceLT, Int.reduceNeg, reduceCtorEq, e10], by simp only [go_sem, ↓reduceIte, Nat.reduceEqDiff, Nat.reduceLeDiff, Nat.reduceAdd, Nat.reduceMul, Nat.reduceSub, Nat.reduceBEq, Nat.reduceGT, Nat.reduceLT, Int.reduceLE, Int.reduceLT, Int.reduceNeg, reduceCtorEq, e11], by simp only [go_sem, ↓reduceIte, Nat.reduceEqDiff, Nat.reduceLeDiff, Nat.reduceAdd, Nat.reduceMul, Nat.reduceSub, Nat.reduceBEq, Nat.reduceGT, Nat.reduceLT, Int.reduceLE, Int.reduceLT, Int.reduceNeg, reduceCtorEq], by omega, by omega, by omega, h5, ok, hops, .inl ⟨hdk, ho, hfu⟩, nw5⟩, by omega⟩
      · have ck : ((d + 1 : Nat) : Int) = k := by omega
        simp only [go_sem, ↓reduceIte, Nat.reduceEqDiff, Nat.reduceLeDiff, Nat.reduceAdd, Nat.reduceMul, Nat.reduceSub, Nat.reduceBEq, Nat.reduceGT, Nat.reduceLT, Int.reduceLE, Int.reduceLT, Int.reduceNeg, reduceCtorEq, e0, e1, e8, e9, e10, e11, e12, cd, he, w2, w3, ck, Int.reduceEq]
        refine FunI.by (F29 h5) ?_
        rintro _ _ ⟨rfl, rfl⟩
        simp only [go_sem, ↓reduceIte, Nat.reduceEqDiff, Nat.reduceLeDiff, Nat.reduceAdd, Nat.reduceMul, Nat.reduceSub, Nat.reduceBEq, Nat.reduceGT, Nat.reduceLT, Int.reduceLE, Int.reduceLT, Int.reduceNeg, reduceCtorEq, e0, e1, e8, e9, e10, e11, e12, ho5, w2, Int.reduceEq]
        refine FunI.by (F30 h5) ?_
        rintro _ _ ⟨rfl, rfl⟩
        have hop2 : (doesS s t x).1.ops = k := by omega
        simp only [go_sem, ↓reduceIte, Nat.reduceEqDiff, Nat.reduceLeDiff, Nat.reduceAdd, Nat.reduceMul, Nat.reduceSub, Nat.reduceBEq, Nat.reduceGT, Nat.reduceLT, Int.reduceLE, Int.reduceLT, Int.reduceNeg, reduceCtorEq, e0, e1, e8, e9, e10, e11, e12, hop2, w2]
        exact ⟨Hold.mk ⟨i + 1, d + 1, _, F5, by simp only [go_sem, ↓reduceIte, Nat.reduceEqDiff, Nat.reduceLeDiff, Nat.reduceAdd, Nat.reduceMul, Nat.reduceSub, Nat.reduceBEq, Nat.reduceGT, Nat.reduceLT, Int.reduceLE, Int.reduceLT, Int.reduceNeg, reduceCtorEq, e0], by simp only [go_sem, ↓reduceIte, Nat.reduceEqDiff, Nat.reduceLeDiff, Nat.reduceAdd, Nat.reduceMul, Nat.reduceSub, Nat.reduceBEq, Nat.reduceGT, Nat.reduceLT, Int.reduceLE, Int.reduceLT, Int.reduceNeg, reduceCtorEq, e1], by simp only [go_sem, ↓reduceIte, Nat.reduceEqDiff, Nat.reduceLeDiff, Nat.reduceAdd, Nat.reduceMul, Nat.reduceSub, Nat.reduceBEq, Nat.reduceGT, Nat.reduceLT, Int.reduceLE, Int.reduceLT, Int.reduceNeg, reduceCtorEq, e8], by simp only [go_sem, ↓reduceIte, Nat.reduceEqDiff, Nat.reduceLeDiff, Nat.reduceAdd, Nat.reduceMul, Nat.reduceSub, Nat.reduceBEq, Nat.reduceGT, Nat.reduceLT, Int.reduceLE, Int.reduceLT, Int.reduceNeg, reduceCtorEq, e9], by simp only [go_sem, ↓reduceIte, Nat.reduceEqDiff, Nat.reduceLeDiff, Nat.reduceAdd, Nat.reduceMul, Nat.reduceSub, Nat.reduceBEq, Nat.reduceGT, Nat.reduceLT, Int.reduceLE, Int.reduceLT, Int.reduceNeg, reduceCtorEq, e10], by simp only [go_sem, ↓reduceIte, Nat.reduceEqDiff, Nat.reduceLeDiff, Nat.reduceAdd, Nat.reduceMul, Nat.reduceSub, Nat.reduceBEq, Nat.reduceGT, Nat.reduceLT, Int.reduceLE, Int.reduceLT, Int.reduceNeg, reduceCtorEq]; rw [ck], by simp only [go_sem, ↓reduceIte, Nat.reduceEqDiff, Nat.reduceLeDiff, Nat.reduceAdd, Nat.reduceMul, Nat.reduceSub, Nat.reduceBEq, Nat.reduceGT, Nat.reduceLT, Int.reduceLE, Int.reduceLT, Int.reduceNeg, reduceCtorEq], by omega, by omega, by omega, h5, ok5, by omega, .inr ⟨ck, ho5⟩, nw5⟩, by omega⟩
      · have ck : ¬ ((d + 1 : Nat) : Int) = k := by omega
        simp only [go_sem, ↓reduceIte, Nat.reduceEqDiff, Nat.reduceLeDiff, Nat.reduceAdd, Nat.reduceMul, Nat.reduceSub, Nat.reduceBEq, Nat.reduceGT, Nat.reduceLT, Int.reduceLE, Int.reduceLT, Int.reduceNeg, reduceCtorEq, e0, e1, e8, e9, e10, e11, e12, cd, he, w2, w3, ck, Int.reduceEq]
        refine FunI.by (F29 h5) ?_
        rintro _ _ ⟨rfl, rfl⟩
        simp only [go_sem, ↓reduceIte, Nat.reduceEqDiff, Nat.reduceLeDiff, Nat.reduceAdd, Nat.reduceMul, Nat.reduceSub, Nat.reduceBEq, Nat.reduceGT, Nat.reduceLT, Int.reduceLE, Int.reduceLT, Int.reduceNeg, reduceCtorEq, e0, e1, e8, e9, e10, e11, e12, ho5, w2, Int.reduceEq]
        refine FunI.by (F30 h5) ?_
        rintro _ _ ⟨rfl, rfl⟩
        have hop2 : (doesS s t x).1.ops = ((d + 1 : Nat) : Int) := by omega
        simp only [go_sem, ↓reduceIte, Nat.reduceEqDiff, Nat.reduceLeDiff, Nat.reduceAdd, Nat.reduceMul, Nat.reduceSub, Nat.reduceBEq, Nat.reduceGT, Nat.reduceLT, Int.reduceLE, Int.reduceLT, Int.reduceNeg, reduceCtorEq, e0, e1, e8, e9, e10, e11, e12, hop2, w2]
        exact ⟨Hold.mk ⟨i + 1, d + 1, _, F5, by simp only [go_sem, ↓reduceIte, Nat.reduceEqDiff, Nat.reduceLeDiff, Nat.reduceAdd, Nat.reduceMul, Nat.reduceSub, Nat.reduceBEq, Nat.reduceGT, Nat.reduceLT, Int.reduceLE, Int.reduceLT, Int.reduceNeg, reduceCtorEq, e0], by simp only [go_sem, ↓reduceIte, Nat.reduceEqDiff, Nat.reduceLeDiff, Nat.reduceAdd, Nat.reduceMul, Nat.reduceSub, Nat.reduceBEq, Nat.reduceGT, Nat.reduceLT, Int.reduceLE, Int.reduceLT, Int.reduceNeg, reduceCtorEq, e1], by simp only [go_sem, ↓reduceIte, Nat.reduceEqDiff, Nat.reduceLeDiff, Nat.reduceAdd, Nat.reduceMul, Nat.reduceSub, Nat.reduceBEq, Nat.reduceGT, Nat.reduceLT, Int.reduceLE, Int.reduceLT, Int.reduceNeg, reduceCtorEq, e8], by simp only [go_sem, ↓reduceIte, Nat.reduceEqDiff, Nat.reduceLeDiff, Nat.reduceAdd, Nat.reduceMul, Nat.reduceSub, Nat.reduceBEq, Nat.reduceGT, Nat.reduceLT, Int.reduceLE, Int.reduceLT, Int.reduceNeg, reduceCtorEq, e9], by simp only [go_sem, ↓reduceIte, Nat.reduceEqDiff, Nat.reduceLeDiff, Nat.reduceAdd, Nat.reduceMul, Nat.reduceSub, Nat.reduceBEq, Nat.reduceGT, Nat.reduceLT, Int.reduceLE, Int.reduceLT, Int.reduceNeg, reduceCtorEq, e10], by simp only [go_sem, ↓reduceIte, Nat.reduceEqDiff, Nat.reduceLeDiff, Nat.reduceAdd, Nat.reduceMul, Nat.reduceSub, Nat.reduceBEq, Nat.reduceGT, Nat.reduceLT, Int.reduceLE, Int.reduceLT, Int.reduceNeg, reduceCtorEq], by simp only [go_sem, ↓reduceIte, Nat.reduceEqDiff, Nat.reduceLeDiff, Nat.reduceAdd, Nat.reduceMul, Nat.reduceSub, Nat.reduceBEq, Nat.reduceGT, Nat.reduceLT, Int.reduceLE, Int.reduceLT, Int.reduceNeg, reduceCtorEq], by omega, by omega, by omega, h5, ok5, by omega, .inl ⟨by omega, ho5, by omega⟩, nw5⟩, by omega⟩
    · have cd : k ≤ (d : Int) := by omega
      have he := does_off ho t x hk6
      rw [he] at h5 ok5 ⊢
      simp only [go_sem, ↓reduceIte, Nat.reduceEqDiff, Nat.reduceLeDiff, Nat.reduceAdd, Nat.reduceMul, Nat.reduceSub, Nat.reduceBEq, Nat.reduceGT, Nat.reduceLT, Int.reduceLE, Int.reduceLT, Int.reduceNeg, reduceCtorEq, e0, e1, e8, e9, e10, e11, e12, cd, w2, Int.reduceEq]
      refine FunI.by (F29 h5) ?_
      rintro _ _ ⟨rfl, rfl⟩
      simp only [go_sem, ↓reduceIte, Nat.reduceEqDiff, Nat.reduceLeDiff, Nat.reduceAdd, Nat.reduceMul, Nat.reduceSub, Nat.reduceBEq, Nat.reduceGT, Nat.reduceLT, Int.reduceLE, Int.reduceLT, Int.reduceNeg, reduceCtorEq, e0, e1, e8, e9, e10, e11, e12, ho, w2, Int.reduceEq]
      refine FunI.by (F30 h5) ?_
      rintro _ _ ⟨rfl, rfl⟩
      simp only [go_sem, ↓reduceIte, Nat.reduceEqDiff, Nat.reduceLeDiff, Nat.reduceAdd, Nat.reduceMul, Nat.reduceSub, Nat.reduceBEq, Nat.reduceGT, Nat.reduceLT, Int.reduceLE, Int.reduceLT, Int.reduceNeg, reduceCtorEq, e0, e1, e8, e9, e10, e11, e12, hops, w2]
      exact ⟨Hold.mk ⟨i + 1, d, s, F5, by simp only [go_sem, ↓reduceIte, Nat.reduceEqDiff, Nat.reduceLeDiff, Nat.reduceAdd, Nat.reduceMul, Nat.reduceSub, Nat.reduceBEq, Nat.reduceGT, Nat.reduceLT, Int.reduceLE, Int.reduceLT, Int.reduceNeg, reduceCtorEq, e0], by simp only [go_sem, ↓reduceIte, Nat.reduceEqDiff, Nat.reduceLeDiff, Nat.reduceAdd, Nat.reduceMul, Nat.reduceSub, Nat.reduceBEq, Nat.reduceGT, Nat.reduceLT, Int.reduceLE, Int.reduceLT, Int.reduceNeg, reduceCtorEq, e1], by simp only [go_sem, ↓reduceIte, Nat.reduceEqDiff, Nat.reduceLeDiff, Nat.reduceAdd, Nat.reduceMul, Nat.reduceSub, Nat.reduceBEq, Nat.reduceGT, Nat.reduceLT, Int.reduceLE, Int.reduceLT, Int.reduceNeg, reduceCtorEq, e8], by simp only [go_sem, ↓reduceIte, Nat.reduceEqDiff, Nat.reduceLeDiff, Nat.reduceAdd, Nat.reduceMul, Nat.reduceSub, Nat.reduceBEq, Nat.reduceGT, Nat.reduceLT, Int.reduceLE, Int.reduceLT, Int.reduceNeg, reduceCtorEq, e9], by simp only [go_sem, ↓reduceIte, Nat.reduceEqDiff, Nat.reduceLeDiff, Nat.reduceAdd, Nat.reduceMul, Nat.reduceSub, Nat.reduceBEq, Nat.reduceGT, Nat.reduceLT, Int.reduceLE, Int.reduceLT, Int.reduceNeg, reduceCtorEq, e10], by simp only [go_sem, ↓reduceIte, Nat.reduceEqDiff, Nat.reduceLeDiff, Nat.reduceAdd, Nat.reduceMul, Nat.reduceSub, Nat.reduceBEq, Nat.reduceGT, Nat.reduceLT, Int.reduceLE, Int.reduceLT, Int.reduceNeg, reduceCtorEq, e11], by simp only [go_sem, ↓reduceIte, Nat.reduceEqDiff, Nat.reduceLeDiff, Nat.reduceAdd, Nat.reduceMul, Nat.reduceSub, Nat.reduceBEq, Nat.reduceGT, Nat.reduceLT, Int.reduceLE, Int.reduceLT, Int.reduceNeg, reduceCtorEq], by omega, by omega, by omega, h5, ok, hops, .inr ⟨hdk, ho⟩, nw5⟩, by omega⟩
  · have w0 : IntKind.i64.wrap (0 + 0) = 0 := by decide
    have exit : ∀ {C : Prop}, ((i : Int) < os.length → ¬ (i : Int) < 300 → C) → (¬ (i : Int) < os.length → C) → C := fun h1 h2 => by
      by_cases hl1 : (i : Int) < os.length
      · exact h1 hl1 (by omega)
      · exact h2 hl1
    rcases hpow with ⟨hdk, ho, hfu⟩ | ⟨hdk, ho⟩
    · by_cases hl1 : (i : Int) < os.length
      case' pos =>
        have hl2 : ¬ (i : Int) < 300 := by omega
        simp only [go_sem, ↓reduceIte, Nat.reduceEqDiff, Nat.reduceLeDiff, Nat.reduceAdd, Nat.reduceMul, Nat.reduceSub, Nat.reduceBEq, Nat.reduceGT, Nat.reduceLT, Int.reduceLE, Int.reduceLT, Int.reduceNeg, reduceCtorEq, c6_L0, e0, e1, e8, e9, e10, e11, e12, hl1, hl2, hdk]
      case' neg =>
        simp only [go_sem, ↓reduceIte, Nat.reduceEqDiff, Nat.reduceLeDiff, Nat.reduceAdd, Nat.reduceMul, Nat.reduceSub, Nat.reduceBEq, Nat.reduceGT, Nat.reduceLT, Int.reduceLE, Int.reduceLT, Int.reduceNeg, reduceCtorEq, c6_L0, e0, e1, e8, e9, e10, e11, e12, hl1, hdk]
      all_goals
        refine FunI.by (F29 hfs) ?_
        rintro _ _ ⟨rfl, rfl⟩
        simp only [go_sem, ↓reduceIte, Nat.reduceEqDiff, Nat.reduceLeDiff, Nat.reduceAdd, Nat.reduceMul, Nat.reduceSub, Nat.reduceBEq, Nat.reduceGT, Nat.reduceLT, Int.reduceLE, Int.reduceLT, Int.reduceNeg, reduceCtorEq, e9, e10, ho, w0]
        refine FunI.by (F22 _ _) ?_
        rintro _ _ ⟨rfl, rfl⟩
        simp only [go_sem, ↓reduceIte, Nat.reduceEqDiff, Nat.reduceLeDiff, Nat.reduceAdd, Nat.reduceMul, Nat.reduceSub, Nat.reduceBEq, Nat.reduceGT, Nat.reduceLT, Int.reduceLE, Int.reduceLT, Int.reduceNeg, reduceCtorEq, e9, e10, ho, w0]
        refine FunI.by (F22 _ _) ?_
        rintro _ _ ⟨rfl, rfl⟩
        simp only [go_sem, ↓reduceIte, Nat.reduceEqDiff, Nat.reduceLeDiff, Nat.reduceAdd, Nat.reduceMul, Nat.reduceSub, Nat.reduceBEq, Nat.reduceGT, Nat.reduceLT, Int.reduceLE, Int.reduceLT, Int.reduceNeg, reduceCtorEq, w0]
        exact nw.1
    · have hdk2 : ¬ (d : Int) < k := by omega
      by_cases hl1 : (i : Int) < os.length
      case' pos =>
        have hl2 : ¬ (i : Int) < 300 := by omega
        simp only [go_sem, ↓reduceIte, Nat.reduceEqDiff, Nat.reduceLeDiff, Nat.reduceAdd, Nat.reduceMul, Nat.reduceSub, Nat.reduceBEq, Nat.reduceGT, Nat.reduceLT, Int.reduceLE, Int.reduceLT, Int.reduceNeg, reduceCtorEq, c6_L0, e0, e1, e8, e9, e10, e11, e12, hl1, hl2, hdk2]
      case' neg =>
        simp only [go_sem, ↓reduceIte, Nat.reduceEqDiff, Nat.reduceLeDiff, Nat.reduceAdd, Nat.reduceMul, Nat.reduceSub, Nat.reduceBEq, Nat.reduceGT, Nat.reduceLT, Int.reduceLE, Int.reduceLT, Int.reduceNeg, reduceCtorEq, c6_L0, e0, e1, e8, e9, e10, e11, e12, hl1, hdk2]
      all_goals
        obtain ⟨mb, lb, hb, pv, dv, p⟩ := hfs
        have fs0 : findS s nA = (none, 81) := by
          unfold findS
          have hb2 : beginS s [nA] = 81 := by rw [begin_nm (by simpa using nA_nm), ho]; rfl
          rw [if_pos (by rw [hb2]; decide), hb2]
        have er : readS s nA 0 1 = ([], 81) := by unfold readS; rw [fs0]
        have es : sizeS s nA = (0, 81) := by unfold sizeS; rw [fs0]
        have ea : armS s 1 = (s, 81) := by unfold armS; rw [if_neg (by omega), if_pos ho]
        refine FunI.by (F31 p ok nA 0 1 (by omega)) ?_
        rintro _ H5 ⟨v5, rfl, o5, x5⟩
        rw [er]
        simp only [go_sem, ↓reduceIte, Nat.reduceEqDiff, Nat.reduceLeDiff, Nat.reduceAdd, Nat.reduceMul, Nat.reduceSub, Nat.reduceBEq, Nat.reduceGT, Nat.reduceLT, Int.reduceLE, Int.reduceLT, Int.reduceNeg, reduceCtorEq, e8, ptrOf]
        refine FunI.by (F32 (p.ext x5) ok.nowH nA) ?_
        rintro _ H6 ⟨rfl, x6⟩
        rw [es]
        simp only [go_sem, ↓reduceIte, Nat.reduceEqDiff, Nat.reduceLeDiff, Nat.reduceAdd, Nat.reduceMul, Nat.reduceSub, Nat.reduceBEq, Nat.reduceGT, Nat.reduceLT, Int.reduceLE, Int.reduceLT, Int.reduceNeg, reduceCtorEq, e8, ptrOf]
        refine FunI.by (F28 ⟨_, _, _, _, _, (p.ext x5).ext x6⟩ 1) ?_
        rintro _ H7 ⟨rfl, h7, c7⟩
        rw [ea] at h7 ⊢
        change FsH H7 F b s at h7
        have z00 : ((0 : Nat) : Int) = 0 := rfl
        simp only [go_sem, ↓reduceIte, Nat.reduceEqDiff, Nat.reduceLeDiff, Nat.reduceAdd, Nat.reduceMul, Nat.reduceSub, Nat.reduceBEq, Nat.reduceGT, Nat.reduceLT, Int.reduceLE, Int.reduceLT, Int.reduceNeg, reduceCtorEq, e8, ptrOf]
        have nw7 := ((nw.ext x5).ext x6).ch c7
        obtain ⟨_, _, _, _, _, p7⟩ := h7
        refine FunI.by (F33 p7 ok (by omega)) ?_
        rintro v8 H8 ⟨ns, hns, o8, x8⟩
        rw [ho, if_pos rfl] at hns
        subst hns
        obtain ⟨a8, l8, cc8, rfl⟩ := Sl.form o8.sl
        have hl8 : l8 = 0 := by have := Sl.length o8.sl; simpa using this.symm
        subst hl8
        simp only [go_sem, ↓reduceIte, Nat.reduceEqDiff, Nat.reduceLeDiff, Nat.reduceAdd, Nat.reduceMul, Nat.reduceSub, Nat.reduceBEq, Nat.reduceGT, Nat.reduceLT, Int.reduceLE, Int.reduceLT, Int.reduceNeg, reduceCtorEq, e8, ptrOf]
        refine FunI.by (F25 (p7.ext x8) ok (by omega) 0 (cuts := []) Ints.nil (fun g hg => by simp [blk] at hg)) ?_
        rintro _ H9 ⟨ns, F9, hn9, h9, c9⟩
        have nw9 := (nw7.ext x8).ch c9
        obtain ⟨z1, z2, z3, z4, _⟩ := crash_ops s 0 [] ns
        have ok9 := crash_ok ok 0 [] ns
        obtain ⟨_, _, _, _, _, p9⟩ := h9
        simp only [go_sem, ↓reduceIte, Nat.reduceEqDiff, Nat.reduceLeDiff, Nat.reduceAdd, Nat.reduceMul, Nat.reduceSub, Nat.reduceBEq, Nat.reduceGT, Nat.reduceLT, Int.reduceLE, Int.reduceLT, Int.reduceNeg, reduceCtorEq, e8, ptrOf]
        refine FunI.by (F34 p9 ok9 (by omega)) ?_
        rintro _ H10 ⟨rfl, F10, h10, c10⟩
        have nw10 := nw9.ch c10
        have esd : (syncDirS (crashS s 0 [] ns)).2 = 0 ∧ (syncDirS (crashS s 0 [] ns)).1.ops = s.ops + 1 := by
          unfold syncDirS
          rw [if_neg (by rw [z3]; decide), count0 z4, if_pos rfl]
          exact ⟨rfl, by show (crashS s 0 [] ns).ops + 1 = _; rw [z1]⟩
        rw [esd.1]
        simp only [go_sem, ↓reduceIte, Nat.reduceEqDiff, Nat.reduceLeDiff, Nat.reduceAdd, Nat.reduceMul, Nat.reduceSub, Nat.reduceBEq, Nat.reduceGT, Nat.reduceLT, Int.reduceLE, Int.reduceLT, Int.reduceNeg, reduceCtorEq, e9, e10, w0]
        iterate 6
          refine FunI.by (F22 _ _) ?_
          rintro _ _ ⟨rfl, rfl⟩
          simp only [go_sem, ↓reduceIte, Nat.reduceEqDiff, Nat.reduceLeDiff, Nat.reduceAdd, Nat.reduceMul, Nat.reduceSub, Nat.reduceBEq, Nat.reduceGT, Nat.reduceLT, Int.reduceLE, Int.reduceLT, Int.reduceNeg, reduceCtorEq, e8, e9, e10, w0, z00, Int.reduceEq]
        refine FunI.by (F30 h10) ?_
        rintro _ _ ⟨rfl, rfl⟩
        have w9 : IntKind.i64.wrap ((d : Int) + 1) = ((d + 1 : Nat) : Int) := by rw [w64_id (by omega) (by omega)]; omega
        have hfin : (syncDirS (crashS s 0 [] ns)).1.ops = ((d + 1 : Nat) : Int) := by rw [esd.2, hops]; omega
        simp only [go_sem, ↓reduceIte, Nat.reduceEqDiff, Nat.reduceLeDiff, Nat.reduceAdd, Nat.reduceMul, Nat.reduceSub, Nat.reduceBEq, Nat.reduceGT, Nat.reduceLT, Int.reduceLE, Int.reduceLT, Int.reduceNeg, reduceCtorEq, e11, hfin, w9]
        exact nw10.1
end Go.Proofs.Ytmkheogjnlmkdaa
