/- The laws' first(): the chapter's examples. -/
import Derived.Test.YtcgejfmbhpmjfaaVMg
import Derived.Test.YtcgejfmbhpmjfaaVFstP
import Derived.Test.YtcgejfmbhpmjfaaVDecs
import Derived.Test.YtcgejfmbhpmjfaaVRsort
set_option linter.unusedSimpArgs false
set_option linter.unusedVariables false
set_option maxRecDepth 20000
namespace Go.Proofs.Ytcgejfmbhpmjfaa
open Go Go.V
-- 11: pith/pithlaw11.first
-- 39: pith/pithlaw11.arc
-- 23: pith/pithlaw11.num
-- 16: pith/runs.Sort
-- 20: pith/runs.Encode
-- 33: pith/runs.Decode
-- 12: pith/runs.Less
-- 22: pith/pithref.SameBytes
-- 15: pith/pithref.SamePairs
-- 3: int
-- 5: uint8
-- 30: []uint8
-- 24: pith/api.Pair
-- 22: []api.Pair
theorem Own2.ints {H : Heap} {B : Nat} {v : Value} {ps : List Pr} (h : Own2 H B 24 2 v (cp ps)) : Prs H v ps := Own2.sl h
theorem step {B : Nat} {H H' H'' : Heap} (h : Upto B H H') (k : Ext H' H'') (hB : B ≤ H.size) : Upto B H H'' := h.trans (k.mono (Nat.le_trans hB h.size))
theorem prs_new {H : Heap} {ps : List Pr} {n : Nat} (hn : n = ps.length) : Prs (H.push (.cells (cp ps).toArray 24)) (.slice (some ⟨H.size, 0, none⟩) n n) ps := Sl.of (c := (cp ps).toArray) (fr := (0, 0)) push_new (Nat.le_refl _) (by rw [hn]; exact cp_len ps) fun i hi => by simp
theorem ints_new {H : Heap} {k : IntKind} {e : TypeId} {xs : List Int} {n : Nat} (hn : n = xs.length) : Ints (H.push (.cells (xs.map (Value.int k)).toArray e)) e k (.slice (some ⟨H.size, 0, none⟩) n n) xs := Sl.of (c := (xs.map (Value.int k)).toArray) (fr := (0, 0)) push_new (Nat.le_refl _) (by rw [hn]; simp) fun i hi => by simp
set_option maxHeartbeats 4000000 in
theorem F11 (H : Heap) : Fun Try.prog 11 #[] H (fun r H' => r = .bool true ∧ Ext H H') := by
  refine fun_of mixed (args := []) Try.func11 Try.ntmps11 b11 r11 rfl ?_
  have x1 : Upto H.size H H := Upto.refl _ _
  simp only [go_sem, ↓reduceIte, Nat.reduceEqDiff, Nat.reduceLeDiff, Nat.reduceAdd, Nat.reduceMul, Nat.reduceSub, Nat.reduceBEq, Nat.reduceGT, Nat.reduceLT, Int.reduceLE, Int.reduceLT, Int.reduceNeg, reduceCtorEq]
  refine FunI.by (F39 (3) (1) _) ?_
  rintro _ H1 ⟨rfl, y⟩
  replace x1 := step x1 y (Nat.le_refl _)
  clear y
  simp only [go_sem, ↓reduceIte, Nat.reduceEqDiff, Nat.reduceLeDiff, Nat.reduceAdd, Nat.reduceMul, Nat.reduceSub, Nat.reduceBEq, Nat.reduceGT, Nat.reduceLT, Int.reduceLE, Int.reduceLT, Int.reduceNeg, reduceCtorEq]
  refine FunI.by (F39 (1) (2) _) ?_
  rintro _ H2 ⟨rfl, y⟩
  replace x1 := step x1 y (Nat.le_refl _)
  clear y
  simp only [go_sem, ↓reduceIte, Nat.reduceEqDiff, Nat.reduceLeDiff, Nat.reduceAdd, Nat.reduceMul, Nat.reduceSub, Nat.reduceBEq, Nat.reduceGT, Nat.reduceLT, Int.reduceLE, Int.reduceLT, Int.reduceNeg, reduceCtorEq]
  refine FunI.by (F39 (3) (1) _) ?_
  rintro _ H3 ⟨rfl, y⟩
  replace x1 := step x1 y (Nat.le_refl _)
  clear y
  simp only [go_sem, ↓reduceIte, Nat.reduceEqDiff, Nat.reduceLeDiff, Nat.reduceAdd, Nat.reduceMul, Nat.reduceSub, Nat.reduceBEq, Nat.reduceGT, Nat.reduceLT, Int.reduceLE, Int.reduceLT, Int.reduceNeg, reduceCtorEq]
  refine FunI.by (F39 (1) (0) _) ?_
  rintro _ H4 ⟨rfl, y⟩
  replace x1 := step x1 y (Nat.le_refl _)
  clear y
  simp only [go_sem, ↓reduceIte, Nat.reduceEqDiff, Nat.reduceLeDiff, Nat.reduceAdd, Nat.reduceMul, Nat.reduceSub, Nat.reduceBEq, Nat.reduceGT, Nat.reduceLT, Int.reduceLE, Int.reduceLT, Int.reduceNeg, reduceCtorEq]
  obtain ⟨H5, hH5⟩ : ∃ G, G = Array.push H4 (Obj.cells #[Value.int .i64 3, Value.int .i64 1, Value.int .i64 1, Value.int .i64 2, Value.int .i64 3, Value.int .i64 1, Value.int .i64 1, Value.int .i64 0] 24) := ⟨_, rfl⟩
  have pl : Prs H5 (.slice (some ⟨H4.size, 0, none⟩) 4 4) [(3, 1), (1, 2), (3, 1), (1, 0)] := by rw [hH5]; exact prs_new rfl
  have y : Ext H4 H5 := by rw [hH5]; exact Ext.push _
  rw [← hH5]
  clear hH5
  replace x1 := step x1 y (Nat.le_refl _)
  clear y
  refine FunI.by (F16 _ _ _ pl (by decide)) ?_
  rintro v5 H6 ⟨o5', y⟩
  rw [sort1] at o5'
  have o5 : Prs _ v5 _ := Own2.sl o5'
  replace x1 := step x1 y (Nat.le_refl _)
  clear y pl o5'
  simp only [go_sem, ↓reduceIte, Nat.reduceEqDiff, Nat.reduceLeDiff, Nat.reduceAdd, Nat.reduceMul, Nat.reduceSub, Nat.reduceBEq, Nat.reduceGT, Nat.reduceLT, Int.reduceLE, Int.reduceLT, Int.reduceNeg, reduceCtorEq]
  refine FunI.by (F39 (1) (0) _) ?_
  rintro _ H7 ⟨rfl, y⟩
  replace x1 := step x1 y (Nat.le_refl _)
  replace o5 := prs_ext o5 y
  clear y
  simp only [go_sem, ↓reduceIte, Nat.reduceEqDiff, Nat.reduceLeDiff, Nat.reduceAdd, Nat.reduceMul, Nat.reduceSub, Nat.reduceBEq, Nat.reduceGT, Nat.reduceLT, Int.reduceLE, Int.reduceLT, Int.reduceNeg, reduceCtorEq]
  refine FunI.by (F39 (1) (2) _) ?_
  rintro _ H8 ⟨rfl, y⟩
  replace x1 := step x1 y (Nat.le_refl _)
  replace o5 := prs_ext o5 y
  clear y
  simp only [go_sem, ↓reduceIte, Nat.reduceEqDiff, Nat.reduceLeDiff, Nat.reduceAdd, Nat.reduceMul, Nat.reduceSub, Nat.reduceBEq, Nat.reduceGT, Nat.reduceLT, Int.reduceLE, Int.reduceLT, Int.reduceNeg, reduceCtorEq]
  refine FunI.by (F39 (3) (1) _) ?_
  rintro _ H9 ⟨rfl, y⟩
  replace x1 := step x1 y (Nat.le_refl _)
  replace o5 := prs_ext o5 y
  clear y
  simp only [go_sem, ↓reduceIte, Nat.reduceEqDiff, Nat.reduceLeDiff, Nat.reduceAdd, Nat.reduceMul, Nat.reduceSub, Nat.reduceBEq, Nat.reduceGT, Nat.reduceLT, Int.reduceLE, Int.reduceLT, Int.reduceNeg, reduceCtorEq]
  obtain ⟨H10, hH10⟩ : ∃ G, G = Array.push H9 (Obj.cells #[Value.int .i64 1, Value.int .i64 0, Value.int .i64 1, Value.int .i64 2, Value.int .i64 3, Value.int .i64 1] 24) := ⟨_, rfl⟩
  have pl : Prs H10 (.slice (some ⟨H9.size, 0, none⟩) 3 3) [(1, 0), (1, 2), (3, 1)] := by rw [hH10]; exact prs_new rfl
  have y : Ext H9 H10 := by rw [hH10]; exact Ext.push _
  rw [← hH10]
  clear hH10
  replace x1 := step x1 y (Nat.le_refl _)
  replace o5 := prs_ext o5 y
  clear y
  refine FunI.by (F15 _ _ [(1, 0), (1, 2), (3, 1)] [(1, 0), (1, 2), (3, 1)] _ o5 pl (by decide)) ?_
  rintro _ _ ⟨rfl, rfl⟩
  clear o5 pl
  simp only [go_sem, ↓reduceIte, Nat.reduceEqDiff, Nat.reduceLeDiff, Nat.reduceAdd, Nat.reduceMul, Nat.reduceSub, Nat.reduceBEq, Nat.reduceGT, Nat.reduceLT, Int.reduceLE, Int.reduceLT, Int.reduceNeg, reduceCtorEq, decide_true]
  refine FunI.by (F39 (1) (0) _) ?_
  rintro _ H11 ⟨rfl, y⟩
  replace x1 := step x1 y (Nat.le_refl _)
  clear y
  simp only [go_sem, ↓reduceIte, Nat.reduceEqDiff, Nat.reduceLeDiff, Nat.reduceAdd, Nat.reduceMul, Nat.reduceSub, Nat.reduceBEq, Nat.reduceGT, Nat.reduceLT, Int.reduceLE, Int.reduceLT, Int.reduceNeg, reduceCtorEq]
  refine FunI.by (F39 (1) (2) _) ?_
  rintro _ H12 ⟨rfl, y⟩
  replace x1 := step x1 y (Nat.le_refl _)
  clear y
  simp only [go_sem, ↓reduceIte, Nat.reduceEqDiff, Nat.reduceLeDiff, Nat.reduceAdd, Nat.reduceMul, Nat.reduceSub, Nat.reduceBEq, Nat.reduceGT, Nat.reduceLT, Int.reduceLE, Int.reduceLT, Int.reduceNeg, reduceCtorEq]
  refine FunI.by (F39 (3) (1) _) ?_
  rintro _ H13 ⟨rfl, y⟩
  replace x1 := step x1 y (Nat.le_refl _)
  clear y
  simp only [go_sem, ↓reduceIte, Nat.reduceEqDiff, Nat.reduceLeDiff, Nat.reduceAdd, Nat.reduceMul, Nat.reduceSub, Nat.reduceBEq, Nat.reduceGT, Nat.reduceLT, Int.reduceLE, Int.reduceLT, Int.reduceNeg, reduceCtorEq]
  obtain ⟨H14, hH14⟩ : ∃ G, G = Array.push H13 (Obj.cells #[Value.int .i64 1, Value.int .i64 0, Value.int .i64 1, Value.int .i64 2, Value.int .i64 3, Value.int .i64 1] 24) := ⟨_, rfl⟩
  have pl : Prs H14 (.slice (some ⟨H13.size, 0, none⟩) 3 3) [(1, 0), (1, 2), (3, 1)] := by rw [hH14]; exact prs_new rfl
  have y : Ext H13 H14 := by rw [hH14]; exact Ext.push _
  rw [← hH14]
  clear hH14
  replace x1 := step x1 y (Nat.le_refl _)
  clear y
  refine FunI.by (F20 _ [(1, 0), (1, 2), (3, 1)] _ pl) ?_
  rintro _ H15 ⟨y, v6, rfl, o6⟩
  rw [enc1] at o6
  simp only [enc1]
  have o5 : Ints _ 5 .u8 v6 [3, 1, 0, 0, 1, 2, 1] := o6.sl
  replace x1 := step x1 y (Nat.le_refl _)
  clear y o6 pl
  simp only [go_sem, ↓reduceIte, Nat.reduceEqDiff, Nat.reduceLeDiff, Nat.reduceAdd, Nat.reduceMul, Nat.reduceSub, Nat.reduceBEq, Nat.reduceGT, Nat.reduceLT, Int.reduceLE, Int.reduceLT, Int.reduceNeg, reduceCtorEq]
  obtain ⟨H16, hH16⟩ : ∃ G, G = Array.push H15 (Obj.cells #[Value.int .u8 3, Value.int .u8 1, Value.int .u8 0, Value.int .u8 0, Value.int .u8 1, Value.int .u8 2, Value.int .u8 1] 5) := ⟨_, rfl⟩
  have pl : Ints H16 5 .u8 (.slice (some ⟨H15.size, 0, none⟩) 7 7) [3, 1, 0, 0, 1, 2, 1] := by rw [hH16]; exact ints_new rfl
  have y : Ext H15 H16 := by rw [hH16]; exact Ext.push _
  rw [← hH16]
  clear hH16
  replace x1 := step x1 y (Nat.le_refl _)
  replace o5 := Ints.ext o5 y
  clear y
  refine FunI.by (F22 _ _ [3, 1, 0, 0, 1, 2, 1] [3, 1, 0, 0, 1, 2, 1] _ o5 pl (by unfold Byt; decide) (by unfold Byt; decide)) ?_
  rintro _ _ ⟨rfl, rfl⟩
  clear o5 pl
  simp only [go_sem, ↓reduceIte, Nat.reduceEqDiff, Nat.reduceLeDiff, Nat.reduceAdd, Nat.reduceMul, Nat.reduceSub, Nat.reduceBEq, Nat.reduceGT, Nat.reduceLT, Int.reduceLE, Int.reduceLT, Int.reduceNeg, reduceCtorEq, decide_true]
  obtain ⟨H17, hH17⟩ : ∃ G, G = Array.push H16 (Obj.cells #[Value.int .u8 1, Value.int .u8 130, Value.int .u8 44, Value.int .u8 129, Value.int .u8 72] 5) := ⟨_, rfl⟩
  have pl : Ints H17 5 .u8 (.slice (some ⟨H16.size, 0, none⟩) 5 5) [1, 130, 44, 129, 72] := by rw [hH17]; exact ints_new rfl
  have y : Ext H16 H17 := by rw [hH17]; exact Ext.push _
  rw [← hH17]
  clear hH17
  replace x1 := step x1 y (Nat.le_refl _)
  clear y
  refine FunI.by (F33 _ [1, 130, 44, 129, 72] _ pl (by unfold Byt; decide) (by decide)) ?_
  rintro _ H18 h7
  obtain ⟨y, o, v7, e7, ho, rfl, o7, he7⟩ := decA_form h7
  have ho' := (ho [(300, 200)]).2 enc2
  subst ho'
  simp only [Option.isSome_some, if_true] at he7
  subst he7
  have o5 : Prs _ v7 [(300, 200)] := prs_own o7
  replace x1 := step x1 y (Nat.le_refl _)
  clear ho h7 pl y o7
  simp only [go_sem, ↓reduceIte, Nat.reduceEqDiff, Nat.reduceLeDiff, Nat.reduceAdd, Nat.reduceMul, Nat.reduceSub, Nat.reduceBEq, Nat.reduceGT, Nat.reduceLT, Int.reduceLE, Int.reduceLT, Int.reduceNeg, reduceCtorEq]
  refine FunI.by (F39 (300) (200) _) ?_
  rintro _ H19 ⟨rfl, y⟩
  replace x1 := step x1 y (Nat.le_refl _)
  replace o5 := prs_ext o5 y
  clear y
  simp only [go_sem, ↓reduceIte, Nat.reduceEqDiff, Nat.reduceLeDiff, Nat.reduceAdd, Nat.reduceMul, Nat.reduceSub, Nat.reduceBEq, Nat.reduceGT, Nat.reduceLT, Int.reduceLE, Int.reduceLT, Int.reduceNeg, reduceCtorEq]
  obtain ⟨H20, hH20⟩ : ∃ G, G = Array.push H19 (Obj.cells #[Value.int .i64 300, Value.int .i64 200] 24) := ⟨_, rfl⟩
  have pl : Prs H20 (.slice (some ⟨H19.size, 0, none⟩) 1 1) [(300, 200)] := by rw [hH20]; exact prs_new rfl
  have y : Ext H19 H20 := by rw [hH20]; exact Ext.push _
  rw [← hH20]
  clear hH20
  replace x1 := step x1 y (Nat.le_refl _)
  replace o5 := prs_ext o5 y
  clear y
  refine FunI.by (F15 _ _ [(300, 200)] [(300, 200)] _ o5 pl (by decide)) ?_
  rintro _ _ ⟨rfl, rfl⟩
  clear o5 pl
  simp only [go_sem, ↓reduceIte, Nat.reduceEqDiff, Nat.reduceLeDiff, Nat.reduceAdd, Nat.reduceMul, Nat.reduceSub, Nat.reduceBEq, Nat.reduceGT, Nat.reduceLT, Int.reduceLE, Int.reduceLT, Int.reduceNeg, reduceCtorEq, decide_true]
  obtain ⟨H21, hH21⟩ : ∃ G, G = Array.push H20 (Obj.cells #[Value.int .u8 0] 5) := ⟨_, rfl⟩
  have pl : Ints H21 5 .u8 (.slice (some ⟨H20.size, 0, none⟩) 1 1) [0] := by rw [hH21]; exact ints_new rfl
  have y : Ext H20 H21 := by rw [hH21]; exact Ext.push _
  rw [← hH21]
  clear hH21
  replace x1 := step x1 y (Nat.le_refl _)
  clear y
  refine FunI.by (F33 _ [0] _ pl (by unfold Byt; decide) (by decide)) ?_
  rintro _ H22 h8
  obtain ⟨y, o, v8, e8, ho, rfl, o8, he8⟩ := decA_form h8
  have ho' : o = none := by
    cases o with
    | none => rfl
    | some l => exact absurd ((ho l).1 rfl) (enc0 l)
  subst ho'
  simp only [Option.isSome_none, Bool.false_eq_true, if_false] at he8
  subst he8
  replace x1 := step x1 y (Nat.le_refl _)
  clear ho h8 o8 y pl
  simp only [go_sem, ↓reduceIte, Nat.reduceEqDiff, Nat.reduceLeDiff, Nat.reduceAdd, Nat.reduceMul, Nat.reduceSub, Nat.reduceBEq, Nat.reduceGT, Nat.reduceLT, Int.reduceLE, Int.reduceLT, Int.reduceNeg, reduceCtorEq]
  refine FunI.by (mg_new 2 _ (by decide)) ?_
  rintro _ H23 ⟨F, M, rfl, mg, hF, y⟩
  replace mg : Mg _ fS0 F _ := mg
  replace hF : ∀ b, F b → H.size ≤ b := fun b hb => Nat.le_trans x1.size (hF b hb)
  replace x1 := step x1 y (Nat.le_refl _)
  clear y
  simp only [go_sem, ↓reduceIte, Nat.reduceEqDiff, Nat.reduceLeDiff, Nat.reduceAdd, Nat.reduceMul, Nat.reduceSub, Nat.reduceBEq, Nat.reduceGT, Nat.reduceLT, Int.reduceLE, Int.reduceLT, Int.reduceNeg, reduceCtorEq]
  refine FunI.by (F23 0 _) ?_
  rintro _ _ ⟨rfl, rfl⟩
  simp only [go_sem, ↓reduceIte, Nat.reduceEqDiff, Nat.reduceLeDiff, Nat.reduceAdd, Nat.reduceMul, Nat.reduceSub, Nat.reduceBEq, Nat.reduceGT, Nat.reduceLT, Int.reduceLE, Int.reduceLT, Int.reduceNeg, reduceCtorEq, decide_true]
  refine FunI.by (F23 0 _) ?_
  rintro _ _ ⟨rfl, rfl⟩
  simp only [go_sem, ↓reduceIte, Nat.reduceEqDiff, Nat.reduceLeDiff, Nat.reduceAdd, Nat.reduceMul, Nat.reduceSub, Nat.reduceBEq, Nat.reduceGT, Nat.reduceLT, Int.reduceLE, Int.reduceLT, Int.reduceNeg, reduceCtorEq, decide_true]
  refine FunI.by (F23 90 _) ?_
  rintro _ _ ⟨rfl, rfl⟩
  simp only [go_sem, ↓reduceIte, Nat.reduceEqDiff, Nat.reduceLeDiff, Nat.reduceAdd, Nat.reduceMul, Nat.reduceSub, Nat.reduceBEq, Nat.reduceGT, Nat.reduceLT, Int.reduceLE, Int.reduceLT, Int.reduceNeg, reduceCtorEq, decide_true]
  refine FunI.by (F39 (1) (2) _) ?_
  rintro _ H24 ⟨rfl, y⟩
  replace x1 := step x1 y (Nat.le_refl _)
  replace mg := mg.ext y
  clear y
  simp only [go_sem, ↓reduceIte, Nat.reduceEqDiff, Nat.reduceLeDiff, Nat.reduceAdd, Nat.reduceMul, Nat.reduceSub, Nat.reduceBEq, Nat.reduceGT, Nat.reduceLT, Int.reduceLE, Int.reduceLT, Int.reduceNeg, reduceCtorEq]
  refine FunI.by (F39 (4) (4) _) ?_
  rintro _ H25 ⟨rfl, y⟩
  replace x1 := step x1 y (Nat.le_refl _)
  replace mg := mg.ext y
  clear y
  simp only [go_sem, ↓reduceIte, Nat.reduceEqDiff, Nat.reduceLeDiff, Nat.reduceAdd, Nat.reduceMul, Nat.reduceSub, Nat.reduceBEq, Nat.reduceGT, Nat.reduceLT, Int.reduceLE, Int.reduceLT, Int.reduceNeg, reduceCtorEq]
  have hlt : ∀ b, F b → b < H25.size := fun b hb => mg.lt hb
  obtain ⟨H26, hH26⟩ : ∃ G, G = Array.push H25 (Obj.cells #[Value.int .i64 1, Value.int .i64 2, Value.int .i64 4, Value.int .i64 4] 24) := ⟨_, rfl⟩
  have pl : Prs H26 (.slice (some ⟨H25.size, 0, none⟩) 2 2) [(1, 2), (4, 4)] := by rw [hH26]; exact prs_new rfl
  have y : Ext H25 H26 := by rw [hH26]; exact Ext.push _
  rw [← hH26]
  clear hH26
  replace x1 := step x1 y (Nat.le_refl _)
  replace mg := mg.ext y
  clear y
  refine FunI.by (mg_give mg 0 pl (fun b hb hf => by cases hb; exact Nat.lt_irrefl _ (hlt _ hf)) false (fun j _ => by have := fLen j; simp only [List.length_cons, List.length_nil]; omega)) ?_
  rintro _ H27 ⟨rfl, F', mg', c⟩
  rw [fGive1] at mg'
  simp only [fGive1]
  clear pl hlt
  have hF' := c.ge hF x1.size
  replace x1 := x1.trans (c.upto hF x1.size)
  clear mg hF c
  obtain ⟨mg, hF⟩ := And.intro mg' hF'
  clear mg' hF'
  clear F
  obtain ⟨F, hFF⟩ : ∃ F, F = F' := ⟨_, rfl⟩
  subst hFF
  replace mg : Mg _ fS1 F _ := mg
  simp only [go_sem, ↓reduceIte, Nat.reduceEqDiff, Nat.reduceLeDiff, Nat.reduceAdd, Nat.reduceMul, Nat.reduceSub, Nat.reduceBEq, Nat.reduceGT, Nat.reduceLT, Int.reduceLE, Int.reduceLT, Int.reduceNeg, reduceCtorEq]
  refine FunI.by (mg_next mg (fun j _ => by have := fLen j; omega)) ?_
  rintro _ H28 ⟨o, ss', rfl, hn, F', mg', c⟩
  obtain ⟨rfl, rfl⟩ := nextR_unique hn fNext1
  clear hn
  have hF' := c.ge hF x1.size
  replace x1 := x1.trans (c.upto hF x1.size)
  clear mg hF c
  obtain ⟨mg, hF⟩ := And.intro mg' hF'
  clear mg' hF'
  clear F
  obtain ⟨F, hFF⟩ : ∃ F, F = F' := ⟨_, rfl⟩
  subst hFF
  simp only [Option.getD_some, Option.getD_none, Option.isSome_some, Option.isSome_none, pv]
  simp only [go_sem, ↓reduceIte, Nat.reduceEqDiff, Nat.reduceLeDiff, Nat.reduceAdd, Nat.reduceMul, Nat.reduceSub, Nat.reduceBEq, Nat.reduceGT, Nat.reduceLT, Int.reduceLE, Int.reduceLT, Int.reduceNeg, reduceCtorEq]
  refine ⟨rfl, hcan_of push_new (by simp), ?_⟩
  rw [hput_push2]
  obtain ⟨H29, hH29⟩ : ∃ G, G = Array.push H28 (Obj.cells #[Value.int .i64 0, Value.int .i64 0] 24) := ⟨_, rfl⟩
  have y : Ext H28 H29 := by rw [hH29]; exact Ext.push _
  rw [← hH29]
  replace x1 := step x1 y (Nat.le_refl _)
  replace mg := mg.ext y
  clear y hH29
  refine FunI.by (mg_wants mg) ?_
  rintro _ H30 ⟨rfl, y⟩
  replace x1 := step x1 y (Nat.le_refl _)
  replace mg := mg.ext y
  clear y
  simp only [go_sem, ↓reduceIte, Nat.reduceEqDiff, Nat.reduceLeDiff, Nat.reduceAdd, Nat.reduceMul, Nat.reduceSub, Nat.reduceBEq, Nat.reduceGT, Nat.reduceLT, Int.reduceLE, Int.reduceLT, Int.reduceNeg, reduceCtorEq]
  refine FunI.by (F39 (1) (2) _) ?_
  rintro _ H31 ⟨rfl, y⟩
  replace x1 := step x1 y (Nat.le_refl _)
  replace mg := mg.ext y
  clear y
  simp only [go_sem, ↓reduceIte, Nat.reduceEqDiff, Nat.reduceLeDiff, Nat.reduceAdd, Nat.reduceMul, Nat.reduceSub, Nat.reduceBEq, Nat.reduceGT, Nat.reduceLT, Int.reduceLE, Int.reduceLT, Int.reduceNeg, reduceCtorEq]
  have hlt : ∀ b, F b → b < H31.size := fun b hb => mg.lt hb
  obtain ⟨H32, hH32⟩ : ∃ G, G = Array.push H31 (Obj.cells #[Value.int .i64 1, Value.int .i64 2] 24) := ⟨_, rfl⟩
  have pl : Prs H32 (.slice (some ⟨H31.size, 0, none⟩) 1 1) [(1, 2)] := by rw [hH32]; exact prs_new rfl
  have y : Ext H31 H32 := by rw [hH32]; exact Ext.push _
  rw [← hH32]
  clear hH32
  replace x1 := step x1 y (Nat.le_refl _)
  replace mg := mg.ext y
  clear y
  refine FunI.by (mg_give mg 1 pl (fun b hb hf => by cases hb; exact Nat.lt_irrefl _ (hlt _ hf)) true (fun j _ => by have := fLen j; simp only [List.length_cons, List.length_nil]; omega)) ?_
  rintro _ H33 ⟨rfl, F', mg', c⟩
  rw [fGive2] at mg'
  simp only [fGive2]
  clear pl hlt
  have hF' := c.ge hF x1.size
  replace x1 := x1.trans (c.upto hF x1.size)
  clear mg hF c
  obtain ⟨mg, hF⟩ := And.intro mg' hF'
  clear mg' hF'
  clear F
  obtain ⟨F, hFF⟩ : ∃ F, F = F' := ⟨_, rfl⟩
  subst hFF
  replace mg : Mg _ fS2 F _ := mg
  simp only [go_sem, ↓reduceIte, Nat.reduceEqDiff, Nat.reduceLeDiff, Nat.reduceAdd, Nat.reduceMul, Nat.reduceSub, Nat.reduceBEq, Nat.reduceGT, Nat.reduceLT, Int.reduceLE, Int.reduceLT, Int.reduceNeg, reduceCtorEq]
  refine FunI.by (mg_next mg (fun j _ => by have := fLen j; omega)) ?_
  rintro _ H34 ⟨o, ss', rfl, hn, F', mg', c⟩
  obtain ⟨rfl, rfl⟩ := nextR_unique hn fNext2
  clear hn
  have hF' := c.ge hF x1.size
  replace x1 := x1.trans (c.upto hF x1.size)
  clear mg hF c
  obtain ⟨mg, hF⟩ := And.intro mg' hF'
  clear mg' hF'
  clear F
  obtain ⟨F, hFF⟩ : ∃ F, F = F' := ⟨_, rfl⟩
  subst hFF
  simp only [Option.getD_some, Option.getD_none, Option.isSome_some, Option.isSome_none, pv]
  simp only [go_sem, ↓reduceIte, Nat.reduceEqDiff, Nat.reduceLeDiff, Nat.reduceAdd, Nat.reduceMul, Nat.reduceSub, Nat.reduceBEq, Nat.reduceGT, Nat.reduceLT, Int.reduceLE, Int.reduceLT, Int.reduceNeg, reduceCtorEq]
  refine ⟨rfl, hcan_of push_new (by simp), ?_⟩
  rw [hput_push2]
  obtain ⟨H35, hH35⟩ : ∃ G, G = Array.push H34 (Obj.cells #[Value.int .i64 1, Value.int .i64 2] 24) := ⟨_, rfl⟩
  have y : Ext H34 H35 := by rw [hH35]; exact Ext.push _
  rw [← hH35]
  replace x1 := step x1 y (Nat.le_refl _)
  have ca : H35[H34.size]? = some (Obj.cells #[Value.int .i64 1, Value.int .i64 2] 24) := by rw [hH35]; exact push_new
  have la : H34.size < H35.size := by rw [hH35]; simp
  have na : ¬ F H34.size := fun hf => Nat.lt_irrefl _ (mg.lt hf)
  replace mg := mg.ext y
  clear y hH35
  refine FunI.by (mg_next mg (fun j _ => by have := fLen j; omega)) ?_
  rintro _ H36 ⟨o, ss', rfl, hn, F', mg', c⟩
  obtain ⟨rfl, rfl⟩ := nextR_unique hn fNext3
  clear hn
  replace ca := c.cell ca na
  replace na := c.notin la na
  replace la := Nat.lt_of_lt_of_le la c.size
  have hF' := c.ge hF x1.size
  replace x1 := x1.trans (c.upto hF x1.size)
  clear mg hF c
  obtain ⟨mg, hF⟩ := And.intro mg' hF'
  clear mg' hF'
  clear F
  obtain ⟨F, hFF⟩ : ∃ F, F = F' := ⟨_, rfl⟩
  subst hFF
  simp only [Option.getD_some, Option.getD_none, Option.isSome_some, Option.isSome_none, pv]
  simp only [go_sem, ↓reduceIte, Nat.reduceEqDiff, Nat.reduceLeDiff, Nat.reduceAdd, Nat.reduceMul, Nat.reduceSub, Nat.reduceBEq, Nat.reduceGT, Nat.reduceLT, Int.reduceLE, Int.reduceLT, Int.reduceNeg, reduceCtorEq]
  refine ⟨rfl, hcan_of push_new (by simp), ?_⟩
  rw [hput_push2]
  obtain ⟨H37, hH37⟩ : ∃ G, G = Array.push H36 (Obj.cells #[Value.int .i64 4, Value.int .i64 4] 24) := ⟨_, rfl⟩
  have y : Ext H36 H37 := by rw [hH37]; exact Ext.push _
  rw [← hH37]
  replace x1 := step x1 y (Nat.le_refl _)
  replace ca := (y.get _ la).trans ca
  replace la := Nat.lt_of_lt_of_le la y.size
  have cb : H37[H36.size]? = some (Obj.cells #[Value.int .i64 4, Value.int .i64 4] 24) := by rw [hH37]; exact push_new
  have lb : H36.size < H37.size := by rw [hH37]; simp
  have nb : ¬ F H36.size := fun hf => Nat.lt_irrefl _ (mg.lt hf)
  replace mg := mg.ext y
  clear y hH37
  refine FunI.by (mg_next mg (fun j _ => by have := fLen j; omega)) ?_
  rintro _ H38 ⟨o, ss', rfl, hn, F', mg', c⟩
  obtain ⟨rfl, rfl⟩ := nextR_unique hn fNext4
  clear hn
  replace ca := c.cell ca na
  replace na := c.notin la na
  replace la := Nat.lt_of_lt_of_le la c.size
  replace cb := c.cell cb nb
  replace nb := c.notin lb nb
  replace lb := Nat.lt_of_lt_of_le lb c.size
  have hF' := c.ge hF x1.size
  replace x1 := x1.trans (c.upto hF x1.size)
  clear mg hF c
  obtain ⟨mg, hF⟩ := And.intro mg' hF'
  clear mg' hF'
  clear F
  obtain ⟨F, hFF⟩ : ∃ F, F = F' := ⟨_, rfl⟩
  subst hFF
  simp only [Option.getD_some, Option.getD_none, Option.isSome_some, Option.isSome_none, pv]
  simp only [go_sem, ↓reduceIte, Nat.reduceEqDiff, Nat.reduceLeDiff, Nat.reduceAdd, Nat.reduceMul, Nat.reduceSub, Nat.reduceBEq, Nat.reduceGT, Nat.reduceLT, Int.reduceLE, Int.reduceLT, Int.reduceNeg, reduceCtorEq]
  refine ⟨rfl, hcan_of push_new (by simp), ?_⟩
  rw [hput_push2]
  obtain ⟨H39, hH39⟩ : ∃ G, G = Array.push H38 (Obj.cells #[Value.int .i64 0, Value.int .i64 0] 24) := ⟨_, rfl⟩
  have y : Ext H38 H39 := by rw [hH39]; exact Ext.push _
  rw [← hH39]
  replace x1 := step x1 y (Nat.le_refl _)
  replace ca := (y.get _ la).trans ca
  replace la := Nat.lt_of_lt_of_le la y.size
  replace cb := (y.get _ lb).trans cb
  replace lb := Nat.lt_of_lt_of_le lb y.size
  replace mg := mg.ext y
  clear y hH39
  have ga0 : hget H39 H34.size 0 = some (.int .i64 1) := by rw [hget_cells ca]; rfl
  have ga1 : hget H39 H34.size 1 = some (.int .i64 2) := by rw [hget_cells ca]; rfl
  have gb0 : hget H39 H36.size 0 = some (.int .i64 4) := by rw [hget_cells cb]; rfl
  have gb1 : hget H39 H36.size 1 = some (.int .i64 4) := by rw [hget_cells cb]; rfl
  have w00 : IntKind.i64.wrap (0 + 0) = 0 := by decide
  refine FunI.by (F23 0 _) ?_
  rintro _ _ ⟨rfl, rfl⟩
  simp only [go_sem, ↓reduceIte, Nat.reduceEqDiff, Nat.reduceLeDiff, Nat.reduceAdd, Nat.reduceMul, Nat.reduceSub, Nat.reduceBEq, Nat.reduceGT, Nat.reduceLT, Int.reduceLE, Int.reduceLT, Int.reduceNeg, reduceCtorEq, decide_true, fWants, w00, ga0, ga1, gb0, gb1, Option.bind_some]
  refine ⟨Upto.refl _ _, ?_⟩
  refine FunI.by (F23 0 _) ?_
  rintro _ _ ⟨rfl, rfl⟩
  simp only [go_sem, ↓reduceIte, Nat.reduceEqDiff, Nat.reduceLeDiff, Nat.reduceAdd, Nat.reduceMul, Nat.reduceSub, Nat.reduceBEq, Nat.reduceGT, Nat.reduceLT, Int.reduceLE, Int.reduceLT, Int.reduceNeg, reduceCtorEq, decide_true, fWants, w00, ga0, ga1, gb0, gb1, Option.bind_some]
  refine ⟨Upto.refl _ _, ?_⟩
  refine FunI.by (F39 1 2 _) ?_
  rintro _ G1 ⟨rfl, y1⟩
  simp only [go_sem, ↓reduceIte, Nat.reduceEqDiff, Nat.reduceLeDiff, Nat.reduceAdd, Nat.reduceMul, Nat.reduceSub, Nat.reduceBEq, Nat.reduceGT, Nat.reduceLT, Int.reduceLE, Int.reduceLT, Int.reduceNeg, reduceCtorEq, decide_true, fWants, w00, ga0, ga1, gb0, gb1, Option.bind_some]
  refine ⟨y1, ?_⟩
  refine RunI.by (eq_pr _ _ (1, 2) (1, 2) G1) ?_
  rintro _ _ ⟨rfl, rfl⟩
  simp only [go_sem, ↓reduceIte, Nat.reduceEqDiff, Nat.reduceLeDiff, Nat.reduceAdd, Nat.reduceMul, Nat.reduceSub, Nat.reduceBEq, Nat.reduceGT, Nat.reduceLT, Int.reduceLE, Int.reduceLT, Int.reduceNeg, reduceCtorEq, decide_true, fWants, w00, ga0, ga1, gb0, gb1, Option.bind_some]
  refine ⟨y1, ?_⟩
  refine FunI.by (F39 4 4 _) ?_
  rintro _ G2 ⟨rfl, y2⟩
  simp only [go_sem, ↓reduceIte, Nat.reduceEqDiff, Nat.reduceLeDiff, Nat.reduceAdd, Nat.reduceMul, Nat.reduceSub, Nat.reduceBEq, Nat.reduceGT, Nat.reduceLT, Int.reduceLE, Int.reduceLT, Int.reduceNeg, reduceCtorEq, decide_true, fWants, w00, ga0, ga1, gb0, gb1, Option.bind_some]
  refine ⟨y1.trans (y2.mono y1.size), ?_⟩
  refine RunI.by (eq_pr _ _ (4, 4) (4, 4) G2) ?_
  rintro _ _ ⟨rfl, rfl⟩
  replace y1 := y1.trans (y2.mono y1.size)
  clear y2
  simp only [go_sem, ↓reduceIte, Nat.reduceEqDiff, Nat.reduceLeDiff, Nat.reduceAdd, Nat.reduceMul, Nat.reduceSub, Nat.reduceBEq, Nat.reduceGT, Nat.reduceLT, Int.reduceLE, Int.reduceLT, Int.reduceNeg, reduceCtorEq, decide_true, fWants, w00, ga0, ga1, gb0, gb1, Option.bind_some]
  refine ⟨y1, ?_⟩
  refine FunI.by (mg_left (mg.ext y1) (fun j _ => by have := fLen j; omega)) ?_
  rintro _ G3 ⟨rfl, y2⟩
  replace y1 := y1.trans (y2.mono y1.size)
  clear y2
  simp only [go_sem, ↓reduceIte, Nat.reduceEqDiff, Nat.reduceLeDiff, Nat.reduceAdd, Nat.reduceMul, Nat.reduceSub, Nat.reduceBEq, Nat.reduceGT, Nat.reduceLT, Int.reduceLE, Int.reduceLT, Int.reduceNeg, reduceCtorEq, decide_true, fWants, w00, ga0, ga1, gb0, gb1, Option.bind_some, fLeft]
  refine ⟨y1, ?_⟩
  refine FunI.by (F12 (1, 2) (4, 4) _) ?_
  rintro _ G4 ⟨rfl, y2⟩
  replace y1 := y1.trans (y2.mono y1.size)
  clear y2
  have hl : ltP (1, 2) (4, 4) = true := by decide
  simp only [go_sem, ↓reduceIte, Nat.reduceEqDiff, Nat.reduceLeDiff, Nat.reduceAdd, Nat.reduceMul, Nat.reduceSub, Nat.reduceBEq, Nat.reduceGT, Nat.reduceLT, Int.reduceLE, Int.reduceLT, Int.reduceNeg, reduceCtorEq, decide_true, fWants, w00, ga0, ga1, gb0, gb1, Option.bind_some, hl]
  exact ⟨y1, x1.trans (y1.mono x1.size)⟩
end Go.Proofs.Ytcgejfmbhpmjfaa
