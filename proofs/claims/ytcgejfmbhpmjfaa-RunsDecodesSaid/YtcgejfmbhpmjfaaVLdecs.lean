/- The law RunsDecodes, over heaps. -/
import Derived.Test.YtcgejfmbhpmjfaaVLenc
import Derived.Test.YtcgejfmbhpmjfaaVEncS
import Derived.Test.YtcgejfmbhpmjfaaVRow2
set_option linter.unusedSimpArgs false
set_option linter.unusedVariables false
set_option maxRecDepth 20000
namespace Go.Proofs.Ytcgejfmbhpmjfaa
open Go Go.V Go.ChangeShapes Go.WideShapes Go.ChangeAt Go.RowKit
-- 5: pith/pithlaw11.RunsDecodes
-- 11: pith/pithlaw11.first
-- 24: pith/pithlaw11.decodes
-- 25: pith/pithref.Bytes
-- 21: pith/pithref11.Encode
-- 3: int
-- 5: uint8
-- 30: []uint8
-- 24: pith/api.Pair
-- 22: []api.Pair
-- 43: pithlaw11.Edit
-- 39: []pithlaw11.Edit
def edc (p : Int × Int) : List Value := [.int .i64 p.1, .int .u8 p.2]
theorem edc_len (p : Int × Int) : (edc p).length = 2 := rfl
/-- Edits. -/
def Eds (H : Heap) (v : Value) (es : List (Int × Int)) : Prop := Sl H 43 2 v (es.flatMap edc) ∧ ∀ p ∈ es, 0 ≤ p.2 ∧ p.2 < 256
theorem cellsEd : Try.prog.cellsOf 43 = 2 := by kernel_rfl
theorem byt_one {x : Int} (h : IntR .u8 x) : 0 ≤ x ∧ x < 256 := byt_of (xs := [x]) (by simpa using h) x (by simp)
theorem arg_eds {D : Type} {enc : TypeId × Value → D} {W : World} {base : Nat} {sp : Nat → Bool} {held : Bool} {v : Value} {d : DataW D} {qs : List MemPlace} (hv : Value.okWide Try.prog W .any base 39 v) (h : DataW.Trod enc Try.prog W 0 sp held 39 v d qs) : ∃ es, Eds W.heap v es := by
  obtain ⟨f, hf⟩ := h
  rw [cells_one Try.underlying39 hv] at hf
  obtain ⟨w, es, e, h1, h2⟩ := open_slk edc (fun p => 0 ≤ p.2 ∧ p.2 < 256) (by decide) Try.underlying39 cellsEd edc_len (fun m cs y hy => by
    obtain ⟨xs, n, _, hx, hl, hlen, hfs⟩ := DataW.trod_struct Try.underlying43 hy
    rw [cellsEd] at hl
    obtain ⟨c0, c1, rfl⟩ : ∃ c0 c1, cs = [c0, c1] := by
      match cs, hl with
      | [a, b], _ => exact ⟨a, b, rfl⟩
    have hl2 : xs.length = 2 := hlen
    obtain ⟨y0, y1, rfl⟩ : ∃ y0 y1, xs = [y0, y1] := by
      match xs, hl2 with
      | [a, b], _ => exact ⟨a, b, rfl⟩
    have t0 : DataW.trod enc Try.prog W 0 sp held n 3 (([c0, c1].drop 0).take (Try.prog.cellsOf 3)) = some y0 := hfs 0 _ rfl
    have t1 : DataW.trod enc Try.prog W 0 sp held n 5 (([c0, c1].drop 1).take (Try.prog.cellsOf 5)) = some y1 := hfs 1 _ rfl
    rw [cellsInt] at t0
    rw [cellsU8] at t1
    obtain ⟨p, h0, _, hw0⟩ := DataW.trod_int Try.underlying3 t0
    obtain ⟨q, h1, _, hw1⟩ := DataW.trod_int Try.underlying5 t1
    replace h0 : c0 = .int .i64 p := by simpa using h0
    replace h1 : c1 = .int .u8 q := by simpa using h1
    subst h0 h1
    exact ⟨(p, q), rfl, byt_one hw1⟩) hf
  obtain rfl : v = w := by simpa using e
  exact ⟨es, h1, h2⟩
theorem xor_byt {a b : Int} (ha : 0 ≤ a ∧ a < 256) (hb : 0 ≤ b ∧ b < 256) : 0 ≤ ibits .xor .u8 a b ∧ ibits .xor .u8 a b < 256 := by
  unfold ibits
  have key : ∀ z : Int, 0 ≤ IntKind.u8.wrap z ∧ IntKind.u8.wrap z < 256 := fun z => by
    simp [IntKind.wrap, IntKind.bits, IntKind.signed]
    omega
  exact key _
set_option maxHeartbeats 4000000 in
theorem F5 (v0 : Value) (ys : List Int) (v1 : Value) (ps : List Pr) (v2 : Value) (es : List (Int × Int)) (i : Int) (H : Heap) (hv0 : Ints H 5 .u8 v0 ys) (hw : Byt ys) (hv1 : Prs H v1 ps) (hv2 : Eds H v2 es) :
    Fun Try.prog 5 #[v0, v1, v2, .int .i64 i] H (fun r H' => r = .bool true ∧ Ext H H') := by
  obtain ⟨a0, c0, rfl⟩ := hv0.form
  obtain ⟨a1, c1, rfl⟩ := prs_form hv1
  obtain ⟨a2, c2, rfl⟩ := Sl.form_k (by decide) edc_len hv2.1
  refine fun_of mixed (args := [_, _, _, _]) Try.func5 Try.ntmps5 b5 r5 rfl ?_
  simp only [go_sem, ↓reduceIte, Nat.reduceEqDiff, Nat.reduceLeDiff, Nat.reduceAdd, Nat.reduceMul, Nat.reduceSub, Nat.reduceBEq, Nat.reduceGT, Nat.reduceLT, Int.reduceLE, Int.reduceLT, Int.reduceNeg, reduceCtorEq]
  refine FunI.by (F11 _) ?_
  rintro _ G1 ⟨rfl, x0⟩
  by_cases l0 : 65536 < ys.length
  · have i0 : (65536 : Int) < ys.length := by omega
    simp only [go_sem, ↓reduceIte, Nat.reduceEqDiff, Nat.reduceLeDiff, Nat.reduceAdd, Nat.reduceMul, Nat.reduceSub, Nat.reduceBEq, Nat.reduceGT, Nat.reduceLT, Int.reduceLE, Int.reduceLT, Int.reduceNeg, reduceCtorEq, i0]
    exact x0
  have i0 : ¬ (65536 : Int) < ys.length := by omega
  by_cases l1 : 3000 < ps.length
  · have i1 : (3000 : Int) < ps.length := by omega
    simp only [go_sem, ↓reduceIte, Nat.reduceEqDiff, Nat.reduceLeDiff, Nat.reduceAdd, Nat.reduceMul, Nat.reduceSub, Nat.reduceBEq, Nat.reduceGT, Nat.reduceLT, Int.reduceLE, Int.reduceLT, Int.reduceNeg, reduceCtorEq, i0, i1]
    exact x0
  have i1 : ¬ (3000 : Int) < ps.length := by omega
  simp only [go_sem, ↓reduceIte, Nat.reduceEqDiff, Nat.reduceLeDiff, Nat.reduceAdd, Nat.reduceMul, Nat.reduceSub, Nat.reduceBEq, Nat.reduceGT, Nat.reduceLT, Int.reduceLE, Int.reduceLT, Int.reduceNeg, reduceCtorEq, i0, i1]
  refine FunI.by (F24 _ ys _ (Ints.ext hv0 x0) hw (by omega)) ?_
  rintro _ G2 ⟨rfl, y⟩
  replace x0 := step x0 y (Nat.le_refl _)
  clear y
  simp only [go_sem, ↓reduceIte, Nat.reduceEqDiff, Nat.reduceLeDiff, Nat.reduceAdd, Nat.reduceMul, Nat.reduceSub, Nat.reduceBEq, Nat.reduceGT, Nat.reduceLT, Int.reduceLE, Int.reduceLT, Int.reduceNeg, reduceCtorEq]
  refine FunI.by (F21 _ ps _ (prs_ext hv1 x0)) ?_
  rintro _ G3 ⟨y, v3, rfl, o3⟩
  replace x0 := step x0 y (Nat.le_refl _)
  clear y
  rcases encR_cases ps with ⟨e0, he0, hne0⟩ | ⟨xs, he0⟩
  · rw [he0] at o3 ⊢
    simp only [go_sem, ↓reduceIte, Nat.reduceEqDiff, Nat.reduceLeDiff, Nat.reduceAdd, Nat.reduceMul, Nat.reduceSub, Nat.reduceBEq, Nat.reduceGT, Nat.reduceLT, Int.reduceLE, Int.reduceLT, Int.reduceNeg, reduceCtorEq, hne0]
    exact x0
  rw [he0] at o3 ⊢
  obtain ⟨q1, q2⟩ := enc_out he0
  have hbx := enc_byt he0
  replace o3 : Own G3 G2.size 5 1 v3 (xs.map (.int .u8)) := o3
  obtain ⟨g3, cap3, rfl, hc3⟩ := (own_int o3).resolve_left fun h => by have := h.2; rw [this] at q1; simp at q1
  simp only [go_sem, ↓reduceIte, Nat.reduceEqDiff, Nat.reduceLeDiff, Nat.reduceAdd, Nat.reduceMul, Nat.reduceSub, Nat.reduceBEq, Nat.reduceGT, Nat.reduceLT, Int.reduceLE, Int.reduceLT, Int.reduceNeg, reduceCtorEq]
  refine FunI.by (F24 _ xs _ o3.sl hbx (by omega)) ?_
  rintro _ G4 ⟨rfl, y⟩
  replace x0 := step x0 y (Nat.le_refl _)
  replace o3 := o3.ext y
  clear y
  simp only [go_sem, ↓reduceIte, Nat.reduceEqDiff, Nat.reduceLeDiff, Nat.reduceAdd, Nat.reduceMul, Nat.reduceSub, Nat.reduceBEq, Nat.reduceGT, Nat.reduceLT, Int.reduceLE, Int.reduceLT, Int.reduceNeg, reduceCtorEq]
  refine FunI.by (F25 _ xs _ o3.sl (by omega)) ?_
  rintro v4 G5 ⟨o4, y⟩
  have b3 : ∀ g, blk (.slice (some ⟨g3, 0, none⟩) xs.length cap3) = some g → g < G4.size := fun g hg => (o3.blk hg).2.1
  have s4 := y.size
  have hs4 := x0.size
  replace x0 := step x0 y (Nat.le_refl _)
  replace o3 := o3.ext y
  clear y
  simp only [go_sem, ↓reduceIte, Nat.reduceEqDiff, Nat.reduceLeDiff, Nat.reduceAdd, Nat.reduceMul, Nat.reduceSub, Nat.reduceBEq, Nat.reduceGT, Nat.reduceLT, Int.reduceLE, Int.reduceLT, Int.reduceNeg, reduceCtorEq]
  refine RunI.by (append_lit ty30 ty5 rfl (by decide) o4 (ys := [.int .u8 0]) (m := 1) rfl rfl (n := xs.length + 1) (by simp) (by show (xs.length + 1) * 1 ≤ _; omega) (by omega) s4) ?_
  rintro v5 G6 ⟨o5, g5, _⟩
  have y := g5.upto o4 s4
  replace o3 := o3.keep fun g hg => y.get g (b3 g hg)
  replace x0 := x0.trans (y.mono hs4)
  clear y b3
  obtain ⟨a5, cap5, rfl⟩ : ∃ a cap, v5 = .slice a (xs ++ [(0 : Int)]).length cap := Ints.form (k := .u8) (xs := xs ++ [0]) (by have := o5.sl; rw [show xs.map (Value.int .u8) ++ [.int .u8 0] = (xs ++ [(0 : Int)]).map (.int .u8) by simp] at this; exact this)
  have o5' : Ints G6 5 .u8 (.slice a5 (xs ++ [(0 : Int)]).length cap5) (xs ++ [0]) := by
    have := o5.sl
    rwa [show xs.map (Value.int .u8) ++ [.int .u8 0] = (xs ++ [(0 : Int)]).map (.int .u8) by simp] at this
  clear o5 g5 o4 s4 hs4
  simp only [go_sem, ↓reduceIte, Nat.reduceEqDiff, Nat.reduceLeDiff, Nat.reduceAdd, Nat.reduceMul, Nat.reduceSub, Nat.reduceBEq, Nat.reduceGT, Nat.reduceLT, Int.reduceLE, Int.reduceLT, Int.reduceNeg, reduceCtorEq]
  refine FunI.by (F24 _ (xs ++ [0]) _ o5' (fun c hc => by
    rw [List.mem_append, List.mem_singleton] at hc
    rcases hc with hc | rfl
    · exact hbx c hc
    · omega) (by simp; omega)) ?_
  rintro _ G7 ⟨rfl, y⟩
  replace x0 := step x0 y (Nat.le_refl _)
  replace o3 := o3.ext y
  clear y o5'
  obtain ⟨k, hk, m1, m2, m3, m4⟩ := modn i xs.length q1 (by omega)
  have z0 : (0 : Int) ≤ k := by omega
  have z1 : (k : Int) < xs.length := by omega
  have z2 : ¬ (xs.length : Int) = 0 := by omega
  simp only [go_sem, ↓reduceIte, Nat.reduceEqDiff, Nat.reduceLeDiff, Nat.reduceAdd, Nat.reduceMul, Nat.reduceSub, Nat.reduceBEq, Nat.reduceGT, Nat.reduceLT, Int.reduceLE, Int.reduceLT, Int.reduceNeg, reduceCtorEq, m1, m2, m3, m4, z0, z1, z2, ne_eq, not_false_eq_true, Int.toNat_natCast]
  refine ⟨by omega, ?_⟩
  have k3 := o3.cut (n := k) (by omega)
  rw [Nat.mul_one, ← List.map_take] at k3
  refine FunI.by (F24 _ (xs.take k) _ k3.sl (fun c hc => hbx c (List.mem_of_mem_take hc)) (by simp; omega)) ?_
  rintro _ G8 ⟨rfl, y⟩
  replace x0 := step x0 y (Nat.le_refl _)
  replace o3 := o3.ext y
  clear y k3
  simp only [go_sem, ↓reduceIte, Nat.reduceEqDiff, Nat.reduceLeDiff, Nat.reduceAdd, Nat.reduceMul, Nat.reduceSub, Nat.reduceBEq, Nat.reduceGT, Nat.reduceLT, Int.reduceLE, Int.reduceLT, Int.reduceNeg, reduceCtorEq]
  refine FunI.by (F25 _ xs _ o3.sl (by omega)) ?_
  rintro v9 G9 ⟨o9, y⟩
  replace o9 := o9.mono x0.size
  replace x0 := step x0 y (Nat.le_refl _)
  clear y o3
  obtain ⟨g9, cap9, rfl, hc9⟩ := (own_int o9).resolve_left fun h => by have := h.2; rw [this] at q1; simp at q1
  simp only [go_sem, ↓reduceIte, Nat.reduceEqDiff, Nat.reduceLeDiff, Nat.reduceAdd, Nat.reduceMul, Nat.reduceSub, Nat.reduceBEq, Nat.reduceGT, Nat.reduceLT, Int.reduceLE, Int.reduceLT, Int.reduceNeg, reduceCtorEq]
  have ev := hv2.2
  have es0 := hv2.1
  refine LoopI.by mixed (fun ρ H' => ∃ (j : Nat) (zs : List Int), ρ 2 = .slice a2 es.length c2 ∧ ρ 9 = .bool true ∧ ρ 12 = .bool true ∧ ρ 13 = .bool true ∧ ρ 14 = .int .i64 xs.length ∧ ρ 15 = .bool true ∧ ρ 16 = .slice (some ⟨g9, 0, none⟩) xs.length cap9 ∧ ρ 17 = .int .i64 j ∧ j ≤ es.length ∧ zs.length = xs.length ∧ Byt zs ∧ Own H' H.size 5 1 (.slice (some ⟨g9, 0, none⟩) xs.length cap9) (zs.map (.int .u8)) ∧ Ext H H') (fun ρ _ => es.length - (iof (ρ 17)).toNat) ?_ ?_
  · exact ⟨0, xs, by simp only [go_sem, ↓reduceIte, Nat.reduceEqDiff, Nat.reduceLeDiff, Nat.reduceAdd, Nat.reduceMul, Nat.reduceSub, Nat.reduceBEq, Nat.reduceGT, Nat.reduceLT, Int.reduceLE, Int.reduceLT, Int.reduceNeg, reduceCtorEq], by simp only [go_sem, ↓reduceIte, Nat.reduceEqDiff, Nat.reduceLeDiff, Nat.reduceAdd, Nat.reduceMul, Nat.reduceSub, Nat.reduceBEq, Nat.reduceGT, Nat.reduceLT, Int.reduceLE, Int.reduceLT, Int.reduceNeg, reduceCtorEq], by simp only [go_sem, ↓reduceIte, Nat.reduceEqDiff, Nat.reduceLeDiff, Nat.reduceAdd, Nat.reduceMul, Nat.reduceSub, Nat.reduceBEq, Nat.reduceGT, Nat.reduceLT, Int.reduceLE, Int.reduceLT, Int.reduceNeg, reduceCtorEq], by simp only [go_sem, ↓reduceIte, Nat.reduceEqDiff, Nat.reduceLeDiff, Nat.reduceAdd, Nat.reduceMul, Nat.reduceSub, Nat.reduceBEq, Nat.reduceGT, Nat.reduceLT, Int.reduceLE, Int.reduceLT, Int.reduceNeg, reduceCtorEq], by simp only [go_sem, ↓reduceIte, Nat.reduceEqDiff, Nat.reduceLeDiff, Nat.reduceAdd, Nat.reduceMul, Nat.reduceSub, Nat.reduceBEq, Nat.reduceGT, Nat.reduceLT, Int.reduceLE, Int.reduceLT, Int.reduceNeg, reduceCtorEq], by simp only [go_sem, ↓reduceIte, Nat.reduceEqDiff, Nat.reduceLeDiff, Nat.reduceAdd, Nat.reduceMul, Nat.reduceSub, Nat.reduceBEq, Nat.reduceGT, Nat.reduceLT, Int.reduceLE, Int.reduceLT, Int.reduceNeg, reduceCtorEq], by simp only [go_sem, ↓reduceIte, Nat.reduceEqDiff, Nat.reduceLeDiff, Nat.reduceAdd, Nat.reduceMul, Nat.reduceSub, Nat.reduceBEq, Nat.reduceGT, Nat.reduceLT, Int.reduceLE, Int.reduceLT, Int.reduceNeg, reduceCtorEq], by simp only [go_sem, ↓reduceIte, Nat.reduceEqDiff, Nat.reduceLeDiff, Nat.reduceAdd, Nat.reduceMul, Nat.reduceSub, Nat.reduceBEq, Nat.reduceGT, Nat.reduceLT, Int.reduceLE, Int.reduceLT, Int.reduceNeg, reduceCtorEq]; rfl, by omega, rfl, hbx, o9, x0⟩
  clear x0 o9
  rintro ρ G10 ⟨j, zs, e2, e9, e12, e13, e14, e15, e16, e17, hj, hz, hbz, o10, x0⟩
  by_cases hjl : j < es.length
  · have c1 : (j : Int) < es.length := by omega
    by_cases hj20 : j < 20
    · have c2' : (j : Int) < 20 := by omega
      obtain ⟨b2, o2, rfl⟩ := Sl.at es0 (by omega)
      obtain ⟨p, hp⟩ : ∃ p, es[j]? = some p := ⟨es[j], List.getElem?_eq_getElem hjl⟩
      have ge0 := Sl.elem edc_len (Sl.ext es0 x0) hp (j := 0) (by omega)
      have ge1 := Sl.elem edc_len (Sl.ext es0 x0) hp (j := 1) (by omega)
      rw [Nat.add_zero] at ge0
      rw [← Nat.add_assoc] at ge1
      have ge0' : hget G10 b2 (o2 + j * 2) = some (.int .i64 p.1) := ge0
      have ge1' : hget G10 b2 (o2 + j * 2 + 1) = some (.int .u8 p.2) := ge1
      obtain ⟨k', hk', n1, n2, n3, n4⟩ := modn p.1 xs.length q1 (by omega)
      have y0 : (0 : Int) ≤ k' := by omega
      have y1 : (k' : Int) < xs.length := by omega
      have y2 : (0 : Int) ≤ j := by omega
      have gt := Ints.get o10.sl (i := k') (by omega)
      rw [Nat.zero_add] at gt
      simp only [go_sem, ↓reduceIte, Nat.reduceEqDiff, Nat.reduceLeDiff, Nat.reduceAdd, Nat.reduceMul, Nat.reduceSub, Nat.reduceBEq, Nat.reduceGT, Nat.reduceLT, Int.reduceLE, Int.reduceLT, Int.reduceNeg, reduceCtorEq, c5_L0, e2, e9, e12, e13, e14, e15, e16, e17, c1, c2', ge0', ge1', n1, n2, n3, n4, y0, y1, y2, z2, gt, ne_eq, not_false_eq_true, Int.toNat_natCast, Option.bind_some]
      obtain ⟨_, s1, s2, s3, _⟩ := o10.store hk' (.int .u8 (ibits .xor .u8 (zs.getD k' 0) p.2))
      rw [Nat.zero_add] at s1 s2 s3
      refine ⟨rfl, s1, Hold.mk ⟨j + 1, zs.set k' (ibits .xor .u8 (zs.getD k' 0) p.2), by simp only [go_sem, ↓reduceIte, Nat.reduceEqDiff, Nat.reduceLeDiff, Nat.reduceAdd, Nat.reduceMul, Nat.reduceSub, Nat.reduceBEq, Nat.reduceGT, Nat.reduceLT, Int.reduceLE, Int.reduceLT, Int.reduceNeg, reduceCtorEq, e2], by simp only [go_sem, ↓reduceIte, Nat.reduceEqDiff, Nat.reduceLeDiff, Nat.reduceAdd, Nat.reduceMul, Nat.reduceSub, Nat.reduceBEq, Nat.reduceGT, Nat.reduceLT, Int.reduceLE, Int.reduceLT, Int.reduceNeg, reduceCtorEq, e9], by simp only [go_sem, ↓reduceIte, Nat.reduceEqDiff, Nat.reduceLeDiff, Nat.reduceAdd, Nat.reduceMul, Nat.reduceSub, Nat.reduceBEq, Nat.reduceGT, Nat.reduceLT, Int.reduceLE, Int.reduceLT, Int.reduceNeg, reduceCtorEq, e12], by simp only [go_sem, ↓reduceIte, Nat.reduceEqDiff, Nat.reduceLeDiff, Nat.reduceAdd, Nat.reduceMul, Nat.reduceSub, Nat.reduceBEq, Nat.reduceGT, Nat.reduceLT, Int.reduceLE, Int.reduceLT, Int.reduceNeg, reduceCtorEq, e13], by simp only [go_sem, ↓reduceIte, Nat.reduceEqDiff, Nat.reduceLeDiff, Nat.reduceAdd, Nat.reduceMul, Nat.reduceSub, Nat.reduceBEq, Nat.reduceGT, Nat.reduceLT, Int.reduceLE, Int.reduceLT, Int.reduceNeg, reduceCtorEq, e14], by simp only [go_sem, ↓reduceIte, Nat.reduceEqDiff, Nat.reduceLeDiff, Nat.reduceAdd, Nat.reduceMul, Nat.reduceSub, Nat.reduceBEq, Nat.reduceGT, Nat.reduceLT, Int.reduceLE, Int.reduceLT, Int.reduceNeg, reduceCtorEq, e15], by simp only [go_sem, ↓reduceIte, Nat.reduceEqDiff, Nat.reduceLeDiff, Nat.reduceAdd, Nat.reduceMul, Nat.reduceSub, Nat.reduceBEq, Nat.reduceGT, Nat.reduceLT, Int.reduceLE, Int.reduceLT, Int.reduceNeg, reduceCtorEq, e16], by simp only [go_sem, ↓reduceIte, Nat.reduceEqDiff, Nat.reduceLeDiff, Nat.reduceAdd, Nat.reduceMul, Nat.reduceSub, Nat.reduceBEq, Nat.reduceGT, Nat.reduceLT, Int.reduceLE, Int.reduceLT, Int.reduceNeg, reduceCtorEq, w64_id (n := (j : Int) + 1) (by omega) (by omega)]; rfl, by omega, by simpa using hz, fun c hc => ?_, ?_, x0.trans (s3.upto (fun g hg => by cases hg; exact (o10.blk rfl).1) x0.size)⟩, by simp only [go_sem, ↓reduceIte, Nat.reduceEqDiff, Nat.reduceLeDiff, Nat.reduceAdd, Nat.reduceMul, Nat.reduceSub, Nat.reduceBEq, Nat.reduceGT, Nat.reduceLT, Int.reduceLE, Int.reduceLT, Int.reduceNeg, reduceCtorEq, w64_id (n := (j : Int) + 1) (by omega) (by omega)]; omega⟩
      · rcases List.mem_or_eq_of_mem_set hc with h | h
        · exact hbz c h
        · rw [h]
          exact xor_byt (hbz _ (mem_getD (by omega) 0)) (ev p (List.mem_of_getElem? hp))
      · rw [List.map_set]
        exact s2
    · have c2' : ¬ (j : Int) < 20 := by omega
      simp only [go_sem, ↓reduceIte, Nat.reduceEqDiff, Nat.reduceLeDiff, Nat.reduceAdd, Nat.reduceMul, Nat.reduceSub, Nat.reduceBEq, Nat.reduceGT, Nat.reduceLT, Int.reduceLE, Int.reduceLT, Int.reduceNeg, reduceCtorEq, c5_L0, e2, e9, e12, e13, e14, e15, e16, e17, c1, c2']
      refine FunI.by (F24 _ zs _ o10.sl hbz (by omega)) ?_
      rintro _ G11 ⟨rfl, y⟩
      simp only [go_sem, ↓reduceIte, Nat.reduceEqDiff, Nat.reduceLeDiff, Nat.reduceAdd, Nat.reduceMul, Nat.reduceSub, Nat.reduceBEq, Nat.reduceGT, Nat.reduceLT, Int.reduceLE, Int.reduceLT, Int.reduceNeg, reduceCtorEq, e9, e12, e13, e15]
      exact x0.trans (y.mono x0.size)
  · have c1 : ¬ (j : Int) < es.length := by omega
    simp only [go_sem, ↓reduceIte, Nat.reduceEqDiff, Nat.reduceLeDiff, Nat.reduceAdd, Nat.reduceMul, Nat.reduceSub, Nat.reduceBEq, Nat.reduceGT, Nat.reduceLT, Int.reduceLE, Int.reduceLT, Int.reduceNeg, reduceCtorEq, c5_L0, e2, e9, e12, e13, e14, e15, e16, e17, c1]
    refine FunI.by (F24 _ zs _ o10.sl hbz (by omega)) ?_
    rintro _ G11 ⟨rfl, y⟩
    simp only [go_sem, ↓reduceIte, Nat.reduceEqDiff, Nat.reduceLeDiff, Nat.reduceAdd, Nat.reduceMul, Nat.reduceSub, Nat.reduceBEq, Nat.reduceGT, Nat.reduceLT, Int.reduceLE, Int.reduceLT, Int.reduceNeg, reduceCtorEq, e9, e12, e13, e15]
    exact x0.trans (y.mono x0.size)
end Go.Proofs.Ytcgejfmbhpmjfaa
