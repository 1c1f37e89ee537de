/- The reference's rows of frames; frames compared. -/
import Derived.Test.YtgpoldjpmcoppaaDoorVRw3
import Derived.Test.YtgpoldjpmcoppaaDoorVSpoil
import Derived.Test.YtgpoldjpmcoppaaDoorVRec
set_option linter.unusedSimpArgs false
set_option linter.unusedVariables false
set_option maxRecDepth 20000
namespace Go.V
open Go
abbrev Fr := Int × List Int
def frK : RecK Fr := ⟨2, fun u a => [.int .i64 a.1, u], Prod.snd, by decide, fun _ _ => rfl⟩
end Go.V
namespace Go.Proofs.YtgpoldjpmcoppaaDoor
open Go Go.V
-- 43: pith/pithref3.Decode
-- 18: pith/pithref3.Row
-- 14: pith/pithref.SameBytes
-- 20: pith/pithref.SameFrame
-- 5: uint8
-- 22: []uint8
-- 44: api.Frame
-- 38: []api.Frame
theorem F20 {k k' : Int} {u u' : Value} {xs ys : List Int} {H : Heap} (hu : Ints H 5 .u8 u xs) (hu' : Ints H 5 .u8 u' ys) (hx : Byt xs) (hy : Byt ys) :
    Fun Tryd.prog 20 #[.agg #[.int .i64 k, u], .agg #[.int .i64 k', u']] H (fun r H' => r = .bool (decide (xs = ys ∧ k = k')) ∧ Ext H H') := by
  obtain ⟨a, c, rfl⟩ := hu.form
  obtain ⟨a', c', rfl⟩ := hu'.form
  refine fun_of mixed (args := [_, _]) Tryd.func20 Tryd.ntmps20 b20 r20 rfl ?_
  have x1 : Ext H (H.push (.cells #[.int .i64 k, .slice a xs.length c] 44)) := Ext.push _
  have x2 : Ext (H.push (.cells #[.int .i64 k, .slice a xs.length c] 44)) ((H.push (.cells #[.int .i64 k, .slice a xs.length c] 44)).push (.cells #[.int .i64 k', .slice a' ys.length c'] 44)) := Ext.push _
  have k1 := x2.old (push_new (H := H) (x := .cells #[.int .i64 k, .slice a xs.length c] 44))
  have k2 : ((H.push (.cells #[.int .i64 k, .slice a xs.length c] 44)).push (.cells #[.int .i64 k', .slice a' ys.length c'] 44))[H.size + 1]? = some (.cells #[.int .i64 k', .slice a' ys.length c'] 44) := by
    have := push_new (H := H.push (.cells #[.int .i64 k, .slice a xs.length c] 44)) (x := .cells #[.int .i64 k', .slice a' ys.length c'] 44)
    simpa using this
  obtain ⟨H1, hH1⟩ : ∃ H1, H1 = ((H.push (.cells #[.int .i64 k, .slice a xs.length c] 44)).push (.cells #[.int .i64 k', .slice a' ys.length c'] 44)) := ⟨_, rfl⟩
  have x12 : Ext H H1 := by rw [hH1]; exact Upto.ext x1 x1.size x2
  rw [← hH1] at k1 k2
  have q0 : hget H1 H.size 0 = some (.int .i64 k) := hget_cells k1
  have q1 : hget H1 H.size 1 = some (.slice a xs.length c) := hget_cells k1
  have p0 : hget H1 (H.size + 1) 0 = some (.int .i64 k') := hget_cells k2
  have p1 : hget H1 (H.size + 1) 1 = some (.slice a' ys.length c') := hget_cells k2
  simp only [go_sem, ↓reduceIte, Nat.reduceEqDiff, Nat.reduceLeDiff, Nat.reduceAdd, Nat.reduceMul, Nat.reduceSub, Nat.reduceBEq, Nat.reduceGT, Nat.reduceLT, Int.reduceLE, Int.reduceLT, Int.reduceNeg, reduceCtorEq, Array.size_push, ← hH1, q0, q1, p0, p1]
  refine FunI.by (F14 _ _ _ _ H1 (hu.ext x12) (hu'.ext x12) hx hy) ?_
  rintro _ _ ⟨rfl, rfl⟩
  by_cases e : xs = ys
  · simp only [go_sem, ↓reduceIte, Nat.reduceEqDiff, Nat.reduceLeDiff, Nat.reduceAdd, Nat.reduceMul, Nat.reduceSub, Nat.reduceBEq, Nat.reduceGT, Nat.reduceLT, Int.reduceLE, Int.reduceLT, Int.reduceNeg, reduceCtorEq, Array.size_push, q0, p0, e, decide_true, true_and]
    exact x12
  · simp only [go_sem, ↓reduceIte, Nat.reduceEqDiff, Nat.reduceLeDiff, Nat.reduceAdd, Nat.reduceMul, Nat.reduceSub, Nat.reduceBEq, Nat.reduceGT, Nat.reduceLT, Int.reduceLE, Int.reduceLT, Int.reduceNeg, reduceCtorEq, e, decide_false, false_and]
    exact x12
/-- Blocks of bytes. -/
def U8N (H : Heap) (g : Nat) : Prop := ∃ c fr, H[g]? = some (.cells c 5 fr)
set_option maxHeartbeats 1600000 in
theorem F18 {v : Value} {R : List Fr} {H : Heap} (hv : Ints H 5 .u8 v (rowB R)) (hR : ∀ f ∈ R, (f.1 = 1 ∨ f.1 = 2 ∨ f.1 = 3) ∧ f.2.length ≤ 1024 ∧ Byt f.2) (hl : (rowB R).length < 1000000000) (hl2 : R.length < 1000000) :
    Fun Tryd.prog 18 #[v] H (fun r H' => ∃ w N, r = .tuple #[w, .int .i64 (rowB R).length, .int .i64 0] ∧ RecN frK H' N 44 5 w R ∧ Ext H H') := by
  obtain ⟨a, cap, rfl⟩ := hv.form
  refine fun_of mixed (args := [_]) Tryd.func18 Tryd.ntmps18 b18 r18 rfl ?_
  have hB : Byt (rowB R) := rowB_byt fun f hf => (hR f hf).2.2
  simp only [go_sem, ↓reduceIte, Nat.reduceEqDiff, Nat.reduceLeDiff, Nat.reduceAdd, Nat.reduceMul, Nat.reduceSub, Nat.reduceBEq, Nat.reduceGT, Nat.reduceLT, Int.reduceLE, Int.reduceLT, Int.reduceNeg, reduceCtorEq]
  refine LoopI.by mixed (fun ρ H' => ∃ (i : Nat) (w : Value) (P : List (Value × Fr)), ρ 0 = .slice a (rowB R).length cap ∧ ρ 5 = w ∧ ρ 6 = .int .i64 ((rowB (R.take i)).length : Nat) ∧ i ≤ R.length ∧ P.map (·.2) = R.take i ∧ RecO frK H' H.size (U8N H') 44 5 w P ∧ Ext H H') (fun ρ _ => (rowB R).length - (iof (ρ 6)).toNat) ?_ ?_
  · exact ⟨0, _, [], by simp only [go_sem, ↓reduceIte, Nat.reduceEqDiff, Nat.reduceLeDiff, Nat.reduceAdd, Nat.reduceMul, Nat.reduceSub, Nat.reduceBEq, Nat.reduceGT, Nat.reduceLT, Int.reduceLE, Int.reduceLT, Int.reduceNeg, reduceCtorEq], by simp only [go_sem, ↓reduceIte, Nat.reduceEqDiff, Nat.reduceLeDiff, Nat.reduceAdd, Nat.reduceMul, Nat.reduceSub, Nat.reduceBEq, Nat.reduceGT, Nat.reduceLT, Int.reduceLE, Int.reduceLT, Int.reduceNeg, reduceCtorEq] <;> rfl, by simp only [go_sem, ↓reduceIte, Nat.reduceEqDiff, Nat.reduceLeDiff, Nat.reduceAdd, Nat.reduceMul, Nat.reduceSub, Nat.reduceBEq, Nat.reduceGT, Nat.reduceLT, Int.reduceLE, Int.reduceLT, Int.reduceNeg, reduceCtorEq, List.take_zero] <;> rfl, by omega, rfl, RecO.nil, Upto.refl _ _⟩
  rintro ρ H1 ⟨i, w, P, e0, e5, e6, hi, hP, ho, x1⟩
  have eR : rowB R = rowB (R.take i) ++ rowB (R.drop i) := by rw [← rowB_app, List.take_append_drop]
  have eRl := congrArg List.length eR
  rw [List.length_append] at eRl
  obtain ⟨wa, wl, wc, rfl⟩ := ho.1.sl.form
  by_cases hlt : i < R.length
  · have ed : R.drop i = R[i] :: R.drop (i + 1) := List.drop_eq_getElem_cons hlt
    have et : R.take (i + 1) = R.take i ++ [R[i]] := List.take_succ_eq_append_getElem hlt
    obtain ⟨f, hf⟩ : ∃ f, f = R[i] := ⟨_, rfl⟩
    have hfm : f ∈ R := by rw [hf]; exact List.getElem_mem hlt
    rw [← hf] at ed et
    obtain ⟨k, p⟩ := f
    obtain ⟨fk, fp, fb⟩ := hR _ hfm
    simp only at fk fp fb
    have lt1 : (rowB (R.take (i + 1))).length = (rowB (R.take i)).length + (12 + p.length) := by rw [et, rowB_snoc, List.length_append, encL_len]
    rw [ed, rowB_cons] at eR eRl
    rw [List.length_append, encL_len] at eRl
    obtain ⟨n, hn⟩ : ∃ n, n = (rowB (R.take i)).length := ⟨_, rfl⟩
    rw [← hn] at e6 eRl lt1
    have lc := Sl.lecap hv
    have c0 : (0 : Int) ≤ (n : Int) := by omega
    have c1 : (n : Int) < (rowB R).length := by omega
    obtain ⟨g, o, rfl⟩ := hv.at (i := 0) (by omega)
    have hs := ints_sub (l := n) (h := (rowB R).length) (hv.ext x1) (by omega) (Nat.le_refl _) (by omega)
    have edr : ((rowB R).drop n).take ((rowB R).length - n) = encL k p ++ rowB (R.drop (i + 1)) := by
      rw [List.take_of_length_le (by rw [List.length_drop]; omega), eR, hn, List.drop_left]
    rw [edr] at hs
    have hbs : Byt (encL k p ++ rowB (R.drop (i + 1))) := by rw [← edr]; exact fun c hc => hB c (List.mem_of_mem_drop (List.mem_of_mem_take hc))
    simp only [c18_L0, go_sem, ↓reduceIte, Nat.reduceEqDiff, Nat.reduceLeDiff, Nat.reduceAdd, Nat.reduceMul, Nat.reduceSub, Nat.reduceBEq, Nat.reduceGT, Nat.reduceLT, Int.reduceLE, Int.reduceLT, Int.reduceNeg, reduceCtorEq, e0, e5, e6, c1, Int.toNat_natCast]
    refine ⟨⟨by omega, by omega⟩, ?_⟩
    rw [if_neg (by omega)]
    refine FunI.by (F43 hs hbs (by rw [List.length_append, encL_len]; omega)) ?_
    rw [decF_enc fk fp]
    rintro _ H2 ⟨u, rfl, ou, x2⟩
    obtain ⟨ua, uc, rfl⟩ := Ints.form (xs := p) (k := .u8) ou.sl
    have x3 : Ext H2 (H2.push (.cells #[.int .i64 k, .slice ua p.length uc] 44)) := Ext.push _
    have k3 : (H2.push (.cells #[.int .i64 k, .slice ua p.length uc] 44))[H2.size]? = some (.cells #[.int .i64 k, .slice ua p.length uc] 44) := push_new
    obtain ⟨H3, hH3⟩ : ∃ H3, H3 = (H2.push (.cells #[.int .i64 k, .slice ua p.length uc] 44)) := ⟨_, rfl⟩
    rw [← hH3] at x3 k3
    have x23 : Ext H1 H3 := Upto.ext x2 x2.size x3
    have x03 : Ext H H3 := Upto.ext x1 x1.size x23
    have q0 : hget H3 H2.size 0 = some (.int .i64 k) := hget_cells k3
    have q1 : hget H3 H2.size 1 = some (.slice ua p.length uc) := hget_cells k3
    simp only [go_sem, ↓reduceIte, Nat.reduceEqDiff, Nat.reduceLeDiff, Nat.reduceAdd, Nat.reduceMul, Nat.reduceSub, Nat.reduceBEq, Nat.reduceGT, Nat.reduceLT, Int.reduceLE, Int.reduceLT, Int.reduceNeg, reduceCtorEq, hput_push2, ← hH3, e5, q0, q1]
    refine ⟨rfl, hcan_of push_new (by simp), ?_⟩
    have up : ∀ {A B : Heap}, Ext A B → ∀ g, U8N A g → U8N B g := fun x g ⟨c, fr, h⟩ => ⟨c, fr, x.old h⟩
    have ho3 := (ho.ext x23).more (up x23)
    have hou := ou.ext x3
    have hPl : P.length = i := by have := congrArg List.length hP; rw [List.length_map, List.length_take] at this; omega
    refine RunI.by (RecO.add (R := frK) (x := (k, p)) (by' := 32) ty38 ty44 rfl (fun g' hg' => ?_) ho3 hou.sl (fun g' hg' => ?_) rfl (by rw [hPl]; omega) (by omega) x03.size) ?_
    · obtain ⟨_, _, c, hc⟩ := ho3.1.blk hg'
      rintro ⟨c2, fr2, h2⟩
      rw [hc] at h2
      simp only [Option.some.injEq, Obj.cells.injEq] at h2
      exact absurd h2.2.1 (by decide)
    · obtain ⟨_, _, c, hc⟩ := hou.blk hg'
      exact ⟨c, _, hc⟩
    rintro v4 H4 ⟨o4, gr, hne, hk4⟩
    have w6 : IntKind.i64.wrap ((n : Int) + (12 + (p.length : Int))) = (((rowB (R.take (i + 1))).length : Nat) : Int) := by rw [w64_id (by omega) (by omega)]; omega
    have x34 : Ext H H4 := Upto.trans x03 (gr.upto ho3.1 x03.size)
    have mv : ∀ g, U8N H3 g → U8N H4 g := fun g ⟨c, fr, hc⟩ => ⟨c, fr, by
      rw [gr.but.get g (Array.getElem?_eq_some_iff.1 hc).1 fun e => ?_]
      · exact hc
      · obtain ⟨_, _, c', hc'⟩ := ho3.1.blk e.symm
        rw [hc] at hc'
        simp only [Option.some.injEq, Obj.cells.injEq] at hc'
        exact absurd hc'.2.1 (by decide)⟩
    simp only [go_sem, ↓reduceIte, Nat.reduceEqDiff, Nat.reduceLeDiff, Nat.reduceAdd, Nat.reduceMul, Nat.reduceSub, Nat.reduceBEq, Nat.reduceGT, Nat.reduceLT, Int.reduceLE, Int.reduceLT, Int.reduceNeg, reduceCtorEq, e0, e6, w6]
    refine ⟨Hold.mk ⟨i + 1, v4, P ++ [(.slice ua p.length uc, (k, p))], by simp only [go_sem, ↓reduceIte, Nat.reduceEqDiff, Nat.reduceLeDiff, Nat.reduceAdd, Nat.reduceMul, Nat.reduceSub, Nat.reduceBEq, Nat.reduceGT, Nat.reduceLT, Int.reduceLE, Int.reduceLT, Int.reduceNeg, reduceCtorEq, e0], by simp only [go_sem, ↓reduceIte, Nat.reduceEqDiff, Nat.reduceLeDiff, Nat.reduceAdd, Nat.reduceMul, Nat.reduceSub, Nat.reduceBEq, Nat.reduceGT, Nat.reduceLT, Int.reduceLE, Int.reduceLT, Int.reduceNeg, reduceCtorEq], by simp only [go_sem, ↓reduceIte, Nat.reduceEqDiff, Nat.reduceLeDiff, Nat.reduceAdd, Nat.reduceMul, Nat.reduceSub, Nat.reduceBEq, Nat.reduceGT, Nat.reduceLT, Int.reduceLE, Int.reduceLT, Int.reduceNeg, reduceCtorEq], by omega, by rw [List.map_append, hP, et]; rfl, o4.more mv, x34⟩, by omega⟩
  · have ei : i = R.length := by omega
    subst ei
    rw [List.take_length] at e6 hP
    have c1 : ¬ ((rowB R).length : Int) < ((rowB R).length : Int) := by omega
    simp only [c18_L0, go_sem, ↓reduceIte, Nat.reduceEqDiff, Nat.reduceLeDiff, Nat.reduceAdd, Nat.reduceMul, Nat.reduceSub, Nat.reduceBEq, Nat.reduceGT, Nat.reduceLT, Int.reduceLE, Int.reduceLT, Int.reduceNeg, reduceCtorEq, e0, e5, e6, c1]
    exact ⟨_, fun _ => True, rfl, ⟨P, hP, ho.1.sl, fun q hq => ⟨(ho.2 q hq).1, fun _ _ => trivial⟩, fun _ _ => trivial⟩, x1⟩
end Go.Proofs.YtgpoldjpmcoppaaDoor
