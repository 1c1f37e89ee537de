/- The chapter example of the checkpoints answers true wherever the table of powers of ten lies as it was laid. -/
import Derived.Test.YtbdclcdoiabapaaDoorVName
set_option linter.unusedSimpArgs false
set_option linter.unusedVariables false
namespace Go.Proofs.YtbdclcdoiabapaaDoor
open Go Go.V
-- 7: pith/pithlaw18.first
-- 11: pith/ckpt.Encode
-- 20: pith/ckpt.Decode
-- 8: pith/ckpt.Name
-- 16: pith/pithlaw18.num
-- 14: pith/pithref.SameBytes
-- 15: pith/pithref.SameByteLists
-- 5: uint8
-- 30: []uint8
-- 31: [][]uint8
-- 4: bool
-- 3: int
-- 28: pith/api.Check

theorem decS_gen {id : Int} {head : List Int} {data : List (List Int)} (h : be head 0 ≠ id) : decS id head data = none := by
  unfold decS
  split
  · cases bspec (be head 8).toNat data with
    | none => rfl
    | some q =>
      obtain ⟨xs, l⟩ := q
      simp only
      cases dspec (be head 12).toNat l with
      | none => rfl
      | some ds =>
        simp only
        rw [if_neg]
        rintro ⟨_, h2, _⟩
        exact h h2
  · rfl
theorem head_wf (gen p : Int) (xs : List Int) (ds : List Bool) : Byt (chkHead gen p xs ds) := by
  intro x hx
  simp only [chkHead, List.mem_append] at hx
  rcases hx with ((h | h) | h) | h <;> exact four_wf _ x h
theorem first_head : chkHead 7 2 [3, 0, 300] [true, false] = [0, 0, 0, 7, 0, 0, 0, 2, 0, 0, 0, 3, 0, 0, 0, 2] := by decide
theorem first_data : chkData [3, 0, 300] [true, false] = [[3, 0, 130, 44], [1, 0]] := by
  have v3 : vput 3 = [3] := by rw [vput, show max (3 : Int) 0 = 3 from rfl, vlen_lt (by decide)]; rfl
  have v0 : vput 0 = [0] := by rw [vput, show max (0 : Int) 0 = 0 from rfl, vlen_lt (by decide)]; rfl
  have v300 : vput 300 = [130, 44] := by rw [vput, show max (300 : Int) 0 = 300 from rfl, vlen_ge (by decide), show (300 : Int) / 128 = 2 from rfl, vlen_lt (by decide)]; rfl
  simp only [chkData, pieces_cons (xs := [3, 0, 300]) (by decide), List.take, List.drop, pieces_nil, List.flatMap_cons, List.flatMap_nil, v3, v0, v300]
  rfl
theorem first_name : ((nameS 7).toList == (⟨#[99, 107, 112, 116, 46, 55]⟩ : ByteArray).toList) = true := by
  rw [toList_data, toList_data]
  have : Lib.itoa 7 = [55] := by simp [Lib.itoa, Lib.decDigits]
  rw [nameS, this]
  rfl

set_option maxHeartbeats 1600000 in
set_option maxRecDepth 20000 in
theorem F7 (H : Heap) (ht : Tab H) : Fun Tryd.prog 7 #[] H (fun r H' => r = .bool true ∧ Ext H H') := by
  refine fun_of mixed (args := []) Tryd.func7 Tryd.ntmps7 b7 r7 rfl ?_
  simp only [go_sem, ↓reduceIte, Nat.reduceEqDiff, Nat.reduceLeDiff, Nat.reduceAdd, Nat.reduceMul, Nat.reduceSub, Nat.reduceBEq, Nat.reduceGT, Nat.reduceLT, Int.reduceLE, Int.reduceLT, Int.reduceNeg, reduceCtorEq]
  have sz1 : (H.push (Obj.cells #[Value.int .i64 3, .int .i64 0, .int .i64 300] 3)).size = H.size + 1 := by simp
  have hx0 : Ext H ((H.push (Obj.cells #[Value.int .i64 3, .int .i64 0, .int .i64 300] 3)).push (Obj.cells #[.bool true, .bool false] 4)) := (Ext.push _).trans ((Ext.push _).mono (by simp))
  have hc : Chk ((H.push (Obj.cells #[Value.int .i64 3, .int .i64 0, .int .i64 300] 3)).push (Obj.cells #[.bool true, .bool false] 4)) 3 4 (.agg #[.int .i64 2, .slice (some ⟨H.size, 0, none⟩) 3 3, .slice (some ⟨(H.push (Obj.cells #[Value.int .i64 3, .int .i64 0, .int .i64 300] 3)).size, 0, none⟩) 2 2]) 2 [3, 0, 300] [true, false] :=
    ⟨_, _, rfl, Sl.ext (Sl.new (sz := 1) (n := 3) rfl) (Ext.push _), Sl.new (sz := 1) (n := 2) rfl⟩
  refine FunI.by (F11 _ 7 2 [3, 0, 300] [true, false] _ hc) ?_
  rintro r H1 ⟨hx1, hr⟩
  rcases hr with ⟨h, _⟩ | ⟨_, h, l, rfl, hh, hl⟩
  · exact absurd h (by decide)
  rw [first_head] at hh
  rw [first_data] at hl
  have w1 : Byt [0, 0, 0, 7, 0, 0, 0, 2, 0, 0, 0, 3, 0, 0, 0, 2] := by unfold Byt; decide
  have w2 : ∀ l ∈ ([[3, 0, 130, 44], [1, 0]] : List (List Int)), Byt l := by unfold Byt; decide
  have hhi : Ints H1 5 .u8 h [0, 0, 0, 7, 0, 0, 0, 2, 0, 0, 0, 3, 0, 0, 0, 2] := hh.sl
  simp only [go_sem, ↓reduceIte, Nat.reduceEqDiff, Nat.reduceLeDiff, Nat.reduceAdd, Nat.reduceMul, Nat.reduceSub, Nat.reduceBEq, Nat.reduceGT, Nat.reduceLT, Int.reduceLE, Int.reduceLT, Int.reduceNeg, reduceCtorEq]
  refine FunI.by (F14 h _ _ _ _ (hhi.ext (Ext.push _)) (show Ints _ 5 .u8 _ [0, 0, 0, 7, 0, 0, 0, 2, 0, 0, 0, 3, 0, 0, 0, 2] from Sl.new (sz := 1) (n := 16) rfl) w1 w1) ?_
  rintro _ _ ⟨rfl, rfl⟩
  simp only [go_sem, ↓reduceIte, Nat.reduceEqDiff, Nat.reduceLeDiff, Nat.reduceAdd, Nat.reduceMul, Nat.reduceSub, Nat.reduceBEq, Nat.reduceGT, Nat.reduceLT, Int.reduceLE, Int.reduceLT, Int.reduceNeg, reduceCtorEq]
  have hx2 : Ext H1 (H1.push (Obj.cells #[Value.int .u8 0, .int .u8 0, .int .u8 0, .int .u8 7, .int .u8 0, .int .u8 0, .int .u8 0, .int .u8 2, .int .u8 0, .int .u8 0, .int .u8 0, .int .u8 3, .int .u8 0, .int .u8 0, .int .u8 0, .int .u8 2] 5)) := Ext.push _
  have hxa : Ext H (H1.push (Obj.cells #[Value.int .u8 0, .int .u8 0, .int .u8 0, .int .u8 7, .int .u8 0, .int .u8 0, .int .u8 0, .int .u8 2, .int .u8 0, .int .u8 0, .int .u8 0, .int .u8 3, .int .u8 0, .int .u8 0, .int .u8 0, .int .u8 2] 5)) := hx0.trans ((hx1.mono hx0.size).trans (hx2.mono (Nat.le_trans hx0.size hx1.size)))
  replace hhi := hhi.ext hx2
  have hll := hl.lists.ext hx2
  generalize H1.push (Obj.cells #[Value.int .u8 0, .int .u8 0, .int .u8 0, .int .u8 7, .int .u8 0, .int .u8 0, .int .u8 0, .int .u8 2, .int .u8 0, .int .u8 0, .int .u8 0, .int .u8 3, .int .u8 0, .int .u8 0, .int .u8 0, .int .u8 2] 5) = H2 at *
  have e3 : Ext H2 (H2.push (Obj.cells #[Value.int .u8 3, .int .u8 0, .int .u8 130, .int .u8 44] 5)) := Ext.push _
  have e4 : Ext H2 ((H2.push (Obj.cells #[Value.int .u8 3, .int .u8 0, .int .u8 130, .int .u8 44] 5)).push (Obj.cells #[Value.int .u8 1, .int .u8 0] 5)) := e3.trans ((Ext.push _).mono e3.size)
  have e5 : ∀ x, Ext H2 (((H2.push (Obj.cells #[Value.int .u8 3, .int .u8 0, .int .u8 130, .int .u8 44] 5)).push (Obj.cells #[Value.int .u8 1, .int .u8 0] 5)).push x) := fun x => e4.trans ((Ext.push _).mono e4.size)
  refine FunI.by (F15 l _ [[3, 0, 130, 44], [1, 0]] [[3, 0, 130, 44], [1, 0]] _ (hll.ext (e5 _)) ?_ w2 w2 (by decide)) ?_
  · refine ⟨_, Sl.new (sz := 1) (n := 2) rfl, ?_, ?_, trivial⟩
    · exact Sl.ext (Sl.ext (Sl.new (sz := 1) (n := 4) rfl) (Ext.push _)) (Ext.push _)
    · exact Sl.ext (Sl.new (sz := 1) (n := 2) rfl) (Ext.push _)
  rintro _ _ ⟨rfl, rfl⟩
  simp only [go_sem, ↓reduceIte, Nat.reduceEqDiff, Nat.reduceLeDiff, Nat.reduceAdd, Nat.reduceMul, Nat.reduceSub, Nat.reduceBEq, Nat.reduceGT, Nat.reduceLT, Int.reduceLE, Int.reduceLT, Int.reduceNeg, reduceCtorEq]
  have hxb := hxa.trans ((e5 (Obj.cells #[.slice (some ⟨H2.size, 0, none⟩) 4 4, .slice (some ⟨(H2.push (Obj.cells #[Value.int .u8 3, .int .u8 0, .int .u8 130, .int .u8 44] 5)).size, 0, none⟩) 2 2] 30)).mono hxa.size)
  replace hhi := hhi.ext (e5 (Obj.cells #[.slice (some ⟨H2.size, 0, none⟩) 4 4, .slice (some ⟨(H2.push (Obj.cells #[Value.int .u8 3, .int .u8 0, .int .u8 130, .int .u8 44] 5)).size, 0, none⟩) 2 2] 30))
  replace hll := hll.ext (e5 (Obj.cells #[.slice (some ⟨H2.size, 0, none⟩) 4 4, .slice (some ⟨(H2.push (Obj.cells #[Value.int .u8 3, .int .u8 0, .int .u8 130, .int .u8 44] 5)).size, 0, none⟩) 2 2] 30))
  generalize ((H2.push (Obj.cells #[Value.int .u8 3, .int .u8 0, .int .u8 130, .int .u8 44] 5)).push (Obj.cells #[Value.int .u8 1, .int .u8 0] 5)).push (Obj.cells #[.slice (some ⟨H2.size, 0, none⟩) 4 4, .slice (some ⟨(H2.push (Obj.cells #[Value.int .u8 3, .int .u8 0, .int .u8 130, .int .u8 44] 5)).size, 0, none⟩) 2 2] 30) = H3 at *
  refine FunI.by (F20 8 h l [0, 0, 0, 7, 0, 0, 0, 2, 0, 0, 0, 3, 0, 0, 0, 2] [[3, 0, 130, 44], [1, 0]] H3 hhi w1 hll (fun xs hxs => ⟨w2 _ hxs, (show ∀ xs ∈ ([[3, 0, 130, 44], [1, 0]] : List (List Int)), xs.length ≤ 140737488350000 by decide) xs hxs⟩) (by decide)) ?_
  rintro r H4 hd
  rw [decS_gen (by decide)] at hd
  obtain ⟨hx4, rfl⟩ := hd
  have hxc := hxb.trans (hx4.mono hxb.size)
  simp only [go_sem, ↓reduceIte, Nat.reduceEqDiff, Nat.reduceLeDiff, Nat.reduceAdd, Nat.reduceMul, Nat.reduceSub, Nat.reduceBEq, Nat.reduceGT, Nat.reduceLT, Int.reduceLE, Int.reduceLT, Int.reduceNeg, reduceCtorEq]
  refine ⟨rfl, hcan_of push_new (by simp), ?_⟩
  rw [hput_push rfl]
  have hxd := hxc.trans ((Ext.push (Obj.cells #[Value.int .i64 0, .slice none 0 0, .slice none 0 0] 28)).mono hxc.size)
  rw [show [Value.int .i64 0, .slice none 0 0, .slice none 0 0].toArray = #[Value.int .i64 0, .slice none 0 0, .slice none 0 0] from rfl]
  generalize H4.push (Obj.cells #[Value.int .i64 0, .slice none 0 0, .slice none 0 0] 28) = H5 at *
  refine FunI.by (F16 0 H5) ?_
  rintro _ _ ⟨rfl, rfl⟩
  simp only [go_sem, ↓reduceIte, Nat.reduceEqDiff, Nat.reduceLeDiff, Nat.reduceAdd, Nat.reduceMul, Nat.reduceSub, Nat.reduceBEq, Nat.reduceGT, Nat.reduceLT, Int.reduceLE, Int.reduceLT, Int.reduceNeg, reduceCtorEq]
  refine FunI.by (F16 90 H5) ?_
  rintro _ _ ⟨rfl, rfl⟩
  simp only [go_sem, ↓reduceIte, Nat.reduceEqDiff, Nat.reduceLeDiff, Nat.reduceAdd, Nat.reduceMul, Nat.reduceSub, Nat.reduceBEq, Nat.reduceGT, Nat.reduceLT, Int.reduceLE, Int.reduceLT, Int.reduceNeg, reduceCtorEq]
  refine FunI.by (F8 7 H5 (ht.ext hxd) (by decide) (by decide)) ?_
  rintro _ H6 ⟨rfl, hx6⟩
  simp only [go_sem, ↓reduceIte, Nat.reduceEqDiff, Nat.reduceLeDiff, Nat.reduceAdd, Nat.reduceMul, Nat.reduceSub, Nat.reduceBEq, Nat.reduceGT, Nat.reduceLT, Int.reduceLE, Int.reduceLT, Int.reduceNeg, reduceCtorEq, first_name]
  exact hxd.trans (hx6.mono hxd.size)
end Go.Proofs.YtbdclcdoiabapaaDoor
