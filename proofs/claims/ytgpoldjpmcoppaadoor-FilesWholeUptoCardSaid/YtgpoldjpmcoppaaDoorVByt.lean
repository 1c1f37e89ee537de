/- Copies and equalities of bytes and of files. -/
import Derived.Test.YtgpoldjpmcoppaaDoorVRec
import Derived.Test.YtgpoldjpmcoppaaDoorVCode
set_option linter.unusedSimpArgs false
set_option linter.unusedVariables false
set_option maxRecDepth 20000
namespace Go.V
open Go
/-- A file: a name, its bytes. -/
abbrev Fl := ByteArray × List Int
@[reducible] def fileK : RecK Fl := ⟨2, fun u a => [.string a.1, u], fun a => a.2, by decide, fun _ _ => rfl⟩
theorem str_dec (a b : ByteArray) : (a.toList == b.toList) = decide (a = b) := by
  rw [toList_data, toList_data, Bool.eq_iff_iff]
  simp only [beq_iff_eq, decide_eq_true_eq]
  constructor
  · intro h
    cases a; cases b
    congr 1
    exact Array.toList_inj.1 h
  · intro h; rw [h]
end Go.V
namespace Go.Proofs.YtgpoldjpmcoppaaDoor
open Go Go.V
-- 51: pith/pithref.Bytes
-- 14: pith/pithref.SameBytes
-- 22: []uint8
-- 5: uint8
-- 9: string
theorem F51 (v : Value) (xs : List Int) (H : Heap) (hs : Ints H 5 .u8 v xs) (hl : xs.length ≤ 140737488350000) :
    Fun Tryd.prog 51 #[v] H (fun v' H' => Own H' H.size 5 1 v' (xs.map (.int .u8)) ∧ Ext H H') := by
  obtain ⟨a, cap, rfl⟩ := hs.form
  refine fun_of mixed (args := [_]) Tryd.func51 Tryd.ntmps51 b51 r51 rfl ?_
  simp only [go_sem, ↓reduceIte, Nat.reduceEqDiff, Nat.reduceLeDiff, Nat.reduceAdd, Nat.reduceMul, Nat.reduceSub, Nat.reduceBEq, Nat.reduceGT, Nat.reduceLT, Int.reduceLE, Int.reduceLT, Int.reduceNeg, reduceCtorEq]
  refine ⟨by omega, by omega, by omega, ?_⟩
  have ho : Own (H.push (.cells (zrow (.int .u8 0) xs.length) 5)) H.size 5 1 (.slice (some ⟨H.size, 0, none⟩) 0 xs.length) [] := by
    have := Own.made (H := H) (B := H.size) (e := 5) (sz := 1) (l := 0) (c := xs.length) (z := .int .u8 0) (Nat.le_refl _) (by omega) (by omega)
    rw [Nat.mul_one, Nat.zero_mul, List.take_zero] at this
    exact this
  refine RunI.by (append_own (sz := 1) (by' := 1) ty22 ty5 rfl rfl rfl (by decide) ho (hs.ext (Ext.push _)) (by simp [Value.oneCell']) (n := xs.length) (by simp) (by omega) (by omega) (by simp)) ?_
  rintro v1 H1 ⟨h1, h2, h3, h4⟩
  simp only [go_sem, ↓reduceIte, Nat.reduceEqDiff, Nat.reduceLeDiff, Nat.reduceAdd, Nat.reduceMul, Nat.reduceSub, Nat.reduceBEq, Nat.reduceGT, Nat.reduceLT, Int.reduceLE, Int.reduceLT, Int.reduceNeg, reduceCtorEq]
  exact ⟨h1, ((Upto.refl _ _).push (Nat.le_refl _) _).trans (h2.upto (fun k hk => by cases hk; exact Nat.le_refl _) (by simp))⟩
theorem F14 (v u : Value) (xs ys : List Int) (H : Heap) (hv : Ints H 5 .u8 v xs) (hu : Ints H 5 .u8 u ys) (hx : Byt xs) (hy : Byt ys) :
    Fun Tryd.prog 14 #[v, u] H (fun r H' => r = .bool (decide (xs = ys)) ∧ H = H') := by
  refine fun_of mixed (args := [v, u]) Tryd.func14 Tryd.ntmps14 b14 r14 rfl ?_
  obtain ⟨a, c, rfl⟩ := hv.form
  obtain ⟨a', c', rfl⟩ := hu.form
  simp only [go_sem, ↓reduceIte, Nat.reduceEqDiff, Nat.reduceLeDiff, Nat.reduceAdd, Nat.reduceMul, Nat.reduceSub, Nat.reduceBEq, Nat.reduceGT, Nat.reduceLT, Int.reduceLE, Int.reduceLT, Int.reduceNeg, reduceCtorEq]
  refine RunI.by (conv_str hv ty22 ty9 ty5) ?_
  rintro _ _ ⟨rfl, rfl⟩
  simp only [go_sem, ↓reduceIte, Nat.reduceEqDiff, Nat.reduceLeDiff, Nat.reduceAdd, Nat.reduceMul, Nat.reduceSub, Nat.reduceBEq, Nat.reduceGT, Nat.reduceLT, Int.reduceLE, Int.reduceLT, Int.reduceNeg, reduceCtorEq]
  refine RunI.by (conv_str hu ty22 ty9 ty5) ?_
  rintro _ _ ⟨rfl, rfl⟩
  simp only [go_sem, ↓reduceIte, Nat.reduceEqDiff, Nat.reduceLeDiff, Nat.reduceAdd, Nat.reduceMul, Nat.reduceSub, Nat.reduceBEq, Nat.reduceGT, Nat.reduceLT, Int.reduceLE, Int.reduceLT, Int.reduceNeg, reduceCtorEq]
  rw [bstr_beq hx hy]
-- 65: pith/pithref.File
-- 32: pith/pithref.Files
-- 117: pith/api.File
-- 67: []api.File
abbrev FilesN (H : Heap) (N : Nat → Prop) (v : Value) (L : List Fl) : Prop := RecN fileK H N 117 5 v L
/-- A copy's parts: in new blocks, each in one of its own. -/
structure FilesO (H : Heap) (B : Nat) (v : Value) (P : List (Value × Fl)) : Prop where
  own : Own H B 117 2 v (fileK.cells P)
  each : ∀ p ∈ P, Own H B 5 1 p.1 (p.2.2.map (.int .u8))
  ap : (P.map (·.1)).Pairwise Apart
theorem FilesO.n {H : Heap} {B : Nat} {v : Value} {P : List (Value × Fl)} {N : Nat → Prop} (h : FilesO H B v P) (hN : ∀ g, B ≤ g → g < H.size → N g) : FilesN H N v (P.map (·.2)) :=
  ⟨P, rfl, h.own.sl, fun p hp => ⟨(h.each p hp).sl, fun g hg => hN g ((h.each p hp).blk hg).1 ((h.each p hp).blk hg).2.1⟩, fun g hg => hN g (h.own.blk hg).1 (h.own.blk hg).2.1⟩
theorem FilesO.ext {H H' : Heap} {B : Nat} {v : Value} {P : List (Value × Fl)} (h : FilesO H B v P) (hx : Ext H H') : FilesO H' B v P := ⟨h.own.ext hx, fun p hp => (h.each p hp).ext hx, h.ap⟩
theorem F65 (u : Value) (x : Fl) (H : Heap) (hu : Ints H 5 .u8 u x.2) (hl : x.2.length ≤ 140737488350000) :
    Fun Tryd.prog 65 #[.agg #[.string x.1, u]] H (fun r H' => ∃ u', r = .agg #[.string x.1, u'] ∧ Own H' H.size 5 1 u' (x.2.map (.int .u8)) ∧ Ext H H') := by
  obtain ⟨a, cap, rfl⟩ := hu.form
  refine fun_of mixed (args := [_]) Tryd.func65 Tryd.ntmps65 b65 r65 rfl ?_
  simp only [go_sem, ↓reduceIte, Nat.reduceEqDiff, Nat.reduceLeDiff, Nat.reduceAdd, Nat.reduceMul, Nat.reduceSub, Nat.reduceBEq, Nat.reduceGT, Nat.reduceLT, Int.reduceLE, Int.reduceLT, Int.reduceNeg, reduceCtorEq]
  obtain ⟨G, hG⟩ : ∃ G, G = (H.push (.cells #[.string x.1, .slice a x.2.length cap] 117)).push (.cells #[.string ⟨#[]⟩, .slice none 0 0] 117) := ⟨_, rfl⟩
  have x0 : Ext H G := by rw [hG]; exact Upto.push (Ext.push _) (by simp) _
  have hsz : (H.push (.cells #[.string x.1, .slice a x.2.length cap] 117)).size = H.size + 1 := by simp
  have hgs : G.size = H.size + 2 := by rw [hG]; simp
  have e1 : G[H.size]? = some (.cells #[.string x.1, .slice a x.2.length cap] 117) := by rw [hG, push_old (by simp)]; exact push_new
  have e2 : G[H.size + 1]? = some (.cells #[.string ⟨#[]⟩, .slice none 0 0] 117) := by rw [hG, ← hsz]; exact push_new
  have g0 : hget G H.size 0 = some (.string x.1) := by unfold hget; rw [e1]; rfl
  have g1 : hget G H.size 1 = some (.slice a x.2.length cap) := by unfold hget; rw [e1]; rfl
  rw [← hG]
  refine FunI.by (F51 _ x.2 _ (hu.ext x0) hl) ?_
  rintro u' H1 ⟨o1, x1⟩
  obtain ⟨a1, l1, c1, rfl⟩ := Sl.form o1.sl
  have e3 : H1[H.size + 1]? = some (.cells #[.string ⟨#[]⟩, .slice none 0 0] 117) := by rw [x1.get _ (by omega)]; exact e2
  have hc : hcan H1 (H.size + 1) 0 2 := hcan_of e3 (by simp)
  have p0 : hput H1 (H.size + 1) 0 [.string x.1, .slice a1 l1 c1] = H1.setIfInBounds (H.size + 1) (.cells #[.string x.1, .slice a1 l1 c1] 117) := by unfold hput; rw [e3]; rfl
  have hsz1 := x1.size
  have k1 : (hput H1 (H.size + 1) 0 [.string x.1, .slice a1 l1 c1])[H.size + 1]? = some (.cells #[.string x.1, .slice a1 l1 c1] 117) := by rw [hput_same e3]; rfl
  have q0 : hget (hput H1 (H.size + 1) 0 [.string x.1, .slice a1 l1 c1]) (H.size + 1) 0 = some (.string x.1) := by unfold hget; rw [k1]; rfl
  have q1 : hget (hput H1 (H.size + 1) 0 [.string x.1, .slice a1 l1 c1]) (H.size + 1) 1 = some (.slice a1 l1 c1) := by unfold hget; rw [k1]; rfl
  simp only [go_sem, ↓reduceIte, Nat.reduceEqDiff, Nat.reduceLeDiff, Nat.reduceAdd, Nat.reduceMul, Nat.reduceSub, Nat.reduceBEq, Nat.reduceGT, Nat.reduceLT, Int.reduceLE, Int.reduceLT, Int.reduceNeg, reduceCtorEq, hsz, hc, q0, q1]
  refine ⟨by rw [← hG]; exact x1, rfl, ?_⟩
  unfold loadV
  rw [ty117]
  simp only
  rw [if_pos (show (K.st [(0, 9), (1, 22)]).agg = true from rfl)]
  refine ⟨[.string x.1, .slice a1 l1 c1], by rw [hgets2, q0, q1]; rfl, _, rfl, (o1.mono (by omega)).keep fun g hg => hput_other _ _ _ _ fun e => ?_, (x0.trans (x1.mono x0.size)).hput (by omega)⟩
  have := (o1.blk hg).1
  omega
theorem F32 (v : Value) (L : List Fl) (H : Heap) {N : Nat → Prop} (hv : FilesN H N v L) (hl : L.length ≤ 2932031000000) (hl2 : ∀ x ∈ L, x.2.length ≤ 140737488350000) :
    Fun Tryd.prog 32 #[v] H (fun r H' => ∃ P, P.map (·.2) = L ∧ FilesO H' H.size r P ∧ Ext H H') := by
  obtain ⟨a, c, rfl⟩ := hv.form
  refine fun_of mixed (args := [_]) Tryd.func32 Tryd.ntmps32 b32 r32 rfl ?_
  simp only [go_sem, ↓reduceIte, Nat.reduceEqDiff, Nat.reduceLeDiff, Nat.reduceAdd, Nat.reduceMul, Nat.reduceSub, Nat.reduceBEq, Nat.reduceGT, Nat.reduceLT, Int.reduceLE, Int.reduceLT, Int.reduceNeg, reduceCtorEq]
  refine ⟨by omega, by omega, by omega, ?_⟩
  refine LoopI.by mixed (fun ρ H' => ∃ (i : Nat) (v' : Value) (P : List (Value × Fl)), ρ 0 = .slice a L.length c ∧ ρ 3 = v' ∧ ρ 4 = .int .i64 i ∧ i ≤ L.length ∧ P.map (·.2) = L.take i ∧ FilesO H' H.size v' P ∧ Ext H H') (fun ρ _ => L.length - (iof (ρ 4)).toNat) ?_ ?_
  · refine ⟨0, _, [], by simp only [go_sem, ↓reduceIte, Nat.reduceEqDiff, Nat.reduceLeDiff, Nat.reduceAdd, Nat.reduceMul, Nat.reduceSub, Nat.reduceBEq, Nat.reduceGT, Nat.reduceLT, Int.reduceLE, Int.reduceLT, Int.reduceNeg, reduceCtorEq], rfl, by simp only [go_sem, ↓reduceIte, Nat.reduceEqDiff, Nat.reduceLeDiff, Nat.reduceAdd, Nat.reduceMul, Nat.reduceSub, Nat.reduceBEq, Nat.reduceGT, Nat.reduceLT, Int.reduceLE, Int.reduceLT, Int.reduceNeg, reduceCtorEq]; rfl, by omega, rfl, ⟨?_, by simp, by simp⟩, Ext.push _⟩
    have := Own.made (H := H) (B := H.size) (e := 117) (sz := 2) (l := 0) (c := L.length) (z := .agg #[.string ⟨#[]⟩, .slice none 0 0]) (Nat.le_refl _) (by omega) (by omega)
    rw [Nat.zero_mul, List.take_zero] at this
    simp only [go_sem, ↓reduceIte, Nat.reduceEqDiff, Nat.reduceLeDiff, Nat.reduceAdd, Nat.reduceMul, Nat.reduceSub, Nat.reduceBEq, Nat.reduceGT, Nat.reduceLT, Int.reduceLE, Int.reduceLT, Int.reduceNeg, reduceCtorEq]
    exact this
  rintro ρ H' ⟨i, v', P, e0, e3, e4, hi, hP, ho, hx⟩
  by_cases hlt : i < L.length
  · obtain ⟨P0, h0, hp0⟩ := hv.ext hx
    have hP0 : P0.length = L.length := by rw [← h0, List.length_map]
    obtain ⟨b, o, rfl⟩ := hp0.at (by omega : i < P0.length)
    obtain ⟨⟨w1, x⟩, hxi⟩ : ∃ p, P0[i]? = some p := ⟨_, List.getElem?_eq_getElem (by omega)⟩
    have hLi : L[i]? = some x := by rw [← h0, List.getElem?_map, hxi]; rfl
    obtain ⟨_, g0, g2, _⟩ := hp0.get hxi
    have gs := g0 0 (by decide)
    have gd := g0 1 (by decide)
    simp only [Nat.add_zero, List.getElem?_cons_zero, List.getElem?_cons_succ] at gs gd
    have c1 : (i : Int) < L.length := by omega
    have c0 : (0 : Int) ≤ i := by omega
    simp only [go_sem, ↓reduceIte, Nat.reduceEqDiff, Nat.reduceLeDiff, Nat.reduceAdd, Nat.reduceMul, Nat.reduceSub, Nat.reduceBEq, Nat.reduceGT, Nat.reduceLT, Int.reduceLE, Int.reduceLT, Int.reduceNeg, reduceCtorEq, c32_L0, e0, e3, e4, c0, c1, Int.toNat_natCast, gs, gd, Option.bind_some]
    refine FunI.by (F65 w1 x H' g2 (hl2 _ (List.mem_of_getElem? hLi))) ?_
    rintro _ H1 ⟨u, rfl, hu, hx1⟩
    have hP1 : P.length = i := by have := congrArg List.length hP; simpa [Nat.min_eq_left hi] using this
    obtain ⟨a1, l1, cc1, rfl⟩ := Sl.form hu.sl
    simp only [go_sem, ↓reduceIte, Nat.reduceEqDiff, Nat.reduceLeDiff, Nat.reduceAdd, Nat.reduceMul, Nat.reduceSub, Nat.reduceBEq, Nat.reduceGT, Nat.reduceLT, Int.reduceLE, Int.reduceLT, Int.reduceNeg, reduceCtorEq, e3]
    have n1 : ([.string x.1, .slice a1 l1 cc1] : List Value).all Value.oneCell' = true := rfl
    have n2 : hcan (H1.push (.cells #[.string ⟨#[]⟩, .slice none 0 0] 117)) H1.size 0 2 := hcan_of push_new (by simp)
    have n3 : hput (H1.push (.cells #[.string ⟨#[]⟩, .slice none 0 0] 117)) H1.size 0 [.string x.1, .slice a1 l1 cc1] = H1.push (.cells #[.string x.1, .slice a1 l1 cc1] 117) := hput_push rfl
    have y1 : Ext H1 (H1.push (.cells #[.string x.1, .slice a1 l1 cc1] 117)) := Ext.push _
    have n4 : hget (H1.push (.cells #[.string x.1, .slice a1 l1 cc1] 117)) H1.size 0 = some (.string x.1) := by unfold hget; rw [push_new]; rfl
    have n5 : hget (H1.push (.cells #[.string x.1, .slice a1 l1 cc1] 117)) H1.size 1 = some (.slice a1 l1 cc1) := by unfold hget; rw [push_new]; rfl
    simp only [go_sem, ↓reduceIte, Nat.reduceEqDiff, Nat.reduceLeDiff, Nat.reduceAdd, Nat.reduceMul, Nat.reduceSub, Nat.reduceBEq, Nat.reduceGT, Nat.reduceLT, Int.reduceLE, Int.reduceLT, Int.reduceNeg, reduceCtorEq, n1, n2, n3, n4, n5]
    replace hx1 := hx1.trans (y1.mono hx1.size)
    replace hu := hu.ext y1
    clear n2 n3 n4 n5
    generalize H1.push (.cells #[.string x.1, .slice a1 l1 cc1] 117) = H1 at *
    refine RunI.by (append_lit ty67 ty117 rfl (by decide) (ho.own.ext hx1) (ys := [.string x.1, .slice a1 l1 cc1]) (m := 1) rfl rfl (n := i + 1) (by rw [fileK.cells_len, hP1]; simp; omega) (by omega) (by omega) (Nat.le_trans hx.size hx1.size)) ?_
    rintro v2 H2 ⟨h1, h2, _⟩
    simp only [go_sem, ↓reduceIte, Nat.reduceEqDiff, Nat.reduceLeDiff, Nat.reduceAdd, Nat.reduceMul, Nat.reduceSub, Nat.reduceBEq, Nat.reduceGT, Nat.reduceLT, Int.reduceLE, Int.reduceLT, Int.reduceNeg, reduceCtorEq, e4]
    rw [w64_id (by omega) (by omega)]
    have hx2 : Upto H.size H1 H2 := h2.upto (ho.own.ext hx1) (Nat.le_trans hx.size hx1.size)
    have inner : ∀ {w : Value} {ys : List Value}, Own H1 H.size 5 1 w ys → Own H2 H.size 5 1 w ys := by
      intro w ys hw
      refine hw.but h2.but ?_
      cases hbw : blk w with
      | none => exact .inl rfl
      | some g =>
        right
        intro he
        obtain ⟨_, _, c1, hc1⟩ := hw.blk hbw
        obtain ⟨_, _, c2, hc2⟩ := (ho.own.ext hx1).blk he.symm
        rw [hc1] at hc2
        cases hc2
    refine ⟨Hold.mk ⟨i + 1, v2, P ++ [(.slice a1 l1 cc1, x)], by simp only [go_sem, ↓reduceIte, Nat.reduceEqDiff, Nat.reduceLeDiff, Nat.reduceAdd, Nat.reduceMul, Nat.reduceSub, Nat.reduceBEq, Nat.reduceGT, Nat.reduceLT, Int.reduceLE, Int.reduceLT, Int.reduceNeg, reduceCtorEq, e0], by simp only [go_sem, ↓reduceIte, Nat.reduceEqDiff, Nat.reduceLeDiff, Nat.reduceAdd, Nat.reduceMul, Nat.reduceSub, Nat.reduceBEq, Nat.reduceGT, Nat.reduceLT, Int.reduceLE, Int.reduceLT, Int.reduceNeg, reduceCtorEq], by simp only [go_sem, ↓reduceIte, Nat.reduceEqDiff, Nat.reduceLeDiff, Nat.reduceAdd, Nat.reduceMul, Nat.reduceSub, Nat.reduceBEq, Nat.reduceGT, Nat.reduceLT, Int.reduceLE, Int.reduceLT, Int.reduceNeg, reduceCtorEq]; rfl, by omega, ?_, ⟨?_, ?_, ?_⟩, (hx.trans (hx1.mono hx.size)).trans hx2⟩, by omega⟩
    · rw [List.map_append, hP, List.take_add_one, hLi]; rfl
    · rw [fileK.cells_snoc]; exact h1
    · intro p hp
      rcases List.mem_append.1 hp with hp | hp
      · exact inner ((ho.each p hp).ext hx1)
      · simp only [List.mem_singleton] at hp
        subst hp
        exact inner (hu.mono hx.size)
    · rw [List.map_append, List.pairwise_append]
      refine ⟨ho.ap, by simp, fun w hw u' hu' => ?_⟩
      simp only [List.map_cons, List.map_nil, List.mem_singleton] at hu'
      subst hu'
      obtain ⟨p, hp, rfl⟩ := List.mem_map.1 hw
      cases hbw : blk p.1 with
      | none => exact .inl hbw
      | some g =>
        right
        rw [hbw]
        intro he
        have := ((ho.each p hp).blk hbw).2.1
        have := (hu.blk he.symm).1
        omega
  · have c1 : ¬ (i : Int) < L.length := by omega
    simp only [go_sem, ↓reduceIte, Nat.reduceEqDiff, Nat.reduceLeDiff, Nat.reduceAdd, Nat.reduceMul, Nat.reduceSub, Nat.reduceBEq, Nat.reduceGT, Nat.reduceLT, Int.reduceLE, Int.reduceLT, Int.reduceNeg, reduceCtorEq, c32_L0, e0, e3, e4, c1]
    have : i = L.length := by omega
    subst this
    rw [List.take_of_length_le (Nat.le_refl _)] at hP
    exact ⟨P, hP, ho, hx⟩
-- 66: pith/pithref.SameFile
-- 35: pith/pithref.SameFiles
-- 4: bool
theorem F66 (u u' : Value) (x y : Fl) (H : Heap) (hu : Ints H 5 .u8 u x.2) (hu' : Ints H 5 .u8 u' y.2) (hx : Byt x.2) (hy : Byt y.2) :
    Fun Tryd.prog 66 #[.agg #[.string x.1, u], .agg #[.string y.1, u']] H (fun r H' => r = .bool (decide (x = y)) ∧ Ext H H') := by
  obtain ⟨a, c, rfl⟩ := hu.form
  obtain ⟨a', c', rfl⟩ := hu'.form
  refine fun_of mixed (args := [_, _]) Tryd.func66 Tryd.ntmps66 b66 r66 rfl ?_
  obtain ⟨G, hG⟩ : ∃ G, G = (H.push (.cells #[.string x.1, .slice a x.2.length c] 117)).push (.cells #[.string y.1, .slice a' y.2.length c'] 117) := ⟨_, rfl⟩
  have x0 : Ext H G := by rw [hG]; exact Upto.push (Ext.push _) (by simp) _
  have hsz : (H.push (.cells #[.string x.1, .slice a x.2.length c] 117)).size = H.size + 1 := by simp
  have e1 : G[H.size]? = some (.cells #[.string x.1, .slice a x.2.length c] 117) := by rw [hG, push_old (by simp)]; exact push_new
  have e2 : G[H.size + 1]? = some (.cells #[.string y.1, .slice a' y.2.length c'] 117) := by rw [hG, ← hsz]; exact push_new
  have g0 : hget G H.size 0 = some (.string x.1) := by unfold hget; rw [e1]; rfl
  have g1 : hget G H.size 1 = some (.slice a x.2.length c) := by unfold hget; rw [e1]; rfl
  have g2 : hget G (H.size + 1) 0 = some (.string y.1) := by unfold hget; rw [e2]; rfl
  have g3 : hget G (H.size + 1) 1 = some (.slice a' y.2.length c') := by unfold hget; rw [e2]; rfl
  subst hG
  simp only [go_sem, ↓reduceIte, Nat.reduceEqDiff, Nat.reduceLeDiff, Nat.reduceAdd, Nat.reduceMul, Nat.reduceSub, Nat.reduceBEq, Nat.reduceGT, Nat.reduceLT, Int.reduceLE, Int.reduceLT, Int.reduceNeg, reduceCtorEq, hsz, g1, g3]
  refine FunI.by (F14 _ _ x.2 y.2 _ (hu.ext x0) (hu'.ext x0) hx hy) ?_
  rintro _ _ ⟨rfl, rfl⟩
  obtain ⟨d, hd⟩ : ∃ d, d = decide (x.2 = y.2) := ⟨_, rfl⟩
  rw [← hd]
  cases d with
  | true =>
    simp only [go_sem, ↓reduceIte, Nat.reduceEqDiff, Nat.reduceLeDiff, Nat.reduceAdd, Nat.reduceMul, Nat.reduceSub, Nat.reduceBEq, Nat.reduceGT, Nat.reduceLT, Int.reduceLE, Int.reduceLT, Int.reduceNeg, reduceCtorEq, hsz, g0, g2]
    refine ⟨?_, x0⟩
    rw [str_dec]
    have hd : x.2 = y.2 := of_decide_eq_true hd.symm
    congr 1
    rw [decide_eq_decide, Prod.ext_iff]
    simp [hd]
  | false =>
    simp only [go_sem, ↓reduceIte, Nat.reduceEqDiff, Nat.reduceLeDiff, Nat.reduceAdd, Nat.reduceMul, Nat.reduceSub, Nat.reduceBEq, Nat.reduceGT, Nat.reduceLT, Int.reduceLE, Int.reduceLT, Int.reduceNeg, reduceCtorEq]
    have hd : ¬ x.2 = y.2 := of_decide_eq_false hd.symm
    have : ¬ x = y := fun e => hd (by rw [e])
    exact ⟨by simp [this], x0⟩
theorem F35 (v v' : Value) (L M : List Fl) (H : Heap) {N N' : Nat → Prop} (hv : FilesN H N v L) (hv' : FilesN H N' v' M) (hl : L.length ≤ 2932031000000) (hb : ∀ x ∈ L, Byt x.2) (hb' : ∀ x ∈ M, Byt x.2) :
    Fun Tryd.prog 35 #[v, v'] H (fun r H' => r = .bool (decide (L = M)) ∧ Ext H H') := by
  obtain ⟨a, c, rfl⟩ := hv.form
  obtain ⟨a', c', rfl⟩ := hv'.form
  refine fun_of mixed (args := [_, _]) Tryd.func35 Tryd.ntmps35 b35 r35 rfl ?_
  simp only [go_sem, ↓reduceIte, Nat.reduceEqDiff, Nat.reduceLeDiff, Nat.reduceAdd, Nat.reduceMul, Nat.reduceSub, Nat.reduceBEq, Nat.reduceGT, Nat.reduceLT, Int.reduceLE, Int.reduceLT, Int.reduceNeg, reduceCtorEq]
  refine ⟨fun h => ?_, fun h => ?_⟩
  · have : ¬ L = M := fun e => h (by rw [e])
    simp only [this, decide_false]
    exact ⟨trivial, Upto.refl _ _⟩
  refine LoopI.by mixed (fun ρ H' => ∃ i : Nat, ρ 0 = .slice a L.length c ∧ ρ 1 = .slice a' M.length c' ∧ ρ 5 = .int .i64 i ∧ i ≤ L.length ∧ L.take i = M.take i ∧ Ext H H') (fun ρ _ => L.length - (iof (ρ 5)).toNat) ?_ ?_
  · exact ⟨0, by simp only [go_sem, ↓reduceIte, Nat.reduceEqDiff, Nat.reduceLeDiff, Nat.reduceAdd, Nat.reduceMul, Nat.reduceSub, Nat.reduceBEq, Nat.reduceGT, Nat.reduceLT, Int.reduceLE, Int.reduceLT, Int.reduceNeg, reduceCtorEq], by simp only [go_sem, ↓reduceIte, Nat.reduceEqDiff, Nat.reduceLeDiff, Nat.reduceAdd, Nat.reduceMul, Nat.reduceSub, Nat.reduceBEq, Nat.reduceGT, Nat.reduceLT, Int.reduceLE, Int.reduceLT, Int.reduceNeg, reduceCtorEq], by simp only [go_sem, ↓reduceIte, Nat.reduceEqDiff, Nat.reduceLeDiff, Nat.reduceAdd, Nat.reduceMul, Nat.reduceSub, Nat.reduceBEq, Nat.reduceGT, Nat.reduceLT, Int.reduceLE, Int.reduceLT, Int.reduceNeg, reduceCtorEq]; rfl, by omega, by simp, Upto.refl _ _⟩
  rintro ρ H' ⟨i, e0, e1, e5, hi, ht, hx⟩
  have hlen : L.length = M.length := by omega
  by_cases hlt : i < L.length
  · obtain ⟨P0, h0, hp0⟩ := hv.ext hx
    have hP0 : P0.length = L.length := by rw [← h0, List.length_map]
    obtain ⟨b, o, rfl⟩ := hp0.at (by omega : i < P0.length)
    obtain ⟨⟨w1, x⟩, hxi⟩ : ∃ p, P0[i]? = some p := ⟨_, List.getElem?_eq_getElem (by omega)⟩
    have hLi : L[i]? = some x := by rw [← h0, List.getElem?_map, hxi]; rfl
    obtain ⟨_, g0, g2, _⟩ := hp0.get hxi
    have gs := g0 0 (by decide)
    have gd := g0 1 (by decide)
    obtain ⟨P1, h1, hp1⟩ := hv'.ext hx
    have hP1 : P1.length = M.length := by rw [← h1, List.length_map]
    obtain ⟨b', o', rfl⟩ := hp1.at (by omega : i < P1.length)
    obtain ⟨⟨w2, y⟩, hyi⟩ : ∃ p, P1[i]? = some p := ⟨_, List.getElem?_eq_getElem (by omega)⟩
    have hMi : M[i]? = some y := by rw [← h1, List.getElem?_map, hyi]; rfl
    obtain ⟨_, k0, k2, _⟩ := hp1.get hyi
    have ks := k0 0 (by decide)
    have kd := k0 1 (by decide)
    simp only [Nat.add_zero, List.getElem?_cons_zero, List.getElem?_cons_succ] at gs gd ks kd
    have c1 : (i : Int) < L.length := by omega
    have c2 : (i : Int) < M.length := by omega
    have c0 : (0 : Int) ≤ i := by omega
    have hne : (decide (L = M) = true → x = y) := fun h => by
      have h := of_decide_eq_true h
      rw [h, hMi] at hLi
      exact (Option.some.inj hLi).symm
    simp only [go_sem, ↓reduceIte, Nat.reduceEqDiff, Nat.reduceLeDiff, Nat.reduceAdd, Nat.reduceMul, Nat.reduceSub, Nat.reduceBEq, Nat.reduceGT, Nat.reduceLT, Int.reduceLE, Int.reduceLT, Int.reduceNeg, reduceCtorEq, c35_L0, e0, e1, e5, c0, c1, c2, Int.toNat_natCast, gs, gd, ks, kd, Option.bind_some]
    refine FunI.by (F66 w1 w2 x y _ g2 k2 (hb _ (List.mem_of_getElem? hLi)) (hb' _ (List.mem_of_getElem? hMi))) ?_
    rintro _ H1 ⟨rfl, x1⟩
    obtain ⟨d, hd⟩ : ∃ d, d = decide (x = y) := ⟨_, rfl⟩
    rw [← hd]
    cases d with
    | false =>
      simp only [go_sem, ↓reduceIte, Nat.reduceEqDiff, Nat.reduceLeDiff, Nat.reduceAdd, Nat.reduceMul, Nat.reduceSub, Nat.reduceBEq, Nat.reduceGT, Nat.reduceLT, Int.reduceLE, Int.reduceLT, Int.reduceNeg, reduceCtorEq, e0, e1, e5]
      have hd : ¬ x = y := of_decide_eq_false hd.symm
      have : ¬ L = M := fun e => hd (hne (by simp [e]))
      simp only [this, decide_false]
      exact ⟨trivial, hx.trans (x1.mono hx.size)⟩
    | true =>
      simp only [go_sem, ↓reduceIte, Nat.reduceEqDiff, Nat.reduceLeDiff, Nat.reduceAdd, Nat.reduceMul, Nat.reduceSub, Nat.reduceBEq, Nat.reduceGT, Nat.reduceLT, Int.reduceLE, Int.reduceLT, Int.reduceNeg, reduceCtorEq, e0, e1, e5]
      have hd : x = y := of_decide_eq_true hd.symm
      subst hd
      rw [w64_id (by omega) (by omega)]
      refine ⟨Hold.mk ⟨i + 1, by simp only [go_sem, ↓reduceIte, Nat.reduceEqDiff, Nat.reduceLeDiff, Nat.reduceAdd, Nat.reduceMul, Nat.reduceSub, Nat.reduceBEq, Nat.reduceGT, Nat.reduceLT, Int.reduceLE, Int.reduceLT, Int.reduceNeg, reduceCtorEq, e0], by simp only [go_sem, ↓reduceIte, Nat.reduceEqDiff, Nat.reduceLeDiff, Nat.reduceAdd, Nat.reduceMul, Nat.reduceSub, Nat.reduceBEq, Nat.reduceGT, Nat.reduceLT, Int.reduceLE, Int.reduceLT, Int.reduceNeg, reduceCtorEq, e1], by simp only [go_sem, ↓reduceIte, Nat.reduceEqDiff, Nat.reduceLeDiff, Nat.reduceAdd, Nat.reduceMul, Nat.reduceSub, Nat.reduceBEq, Nat.reduceGT, Nat.reduceLT, Int.reduceLE, Int.reduceLT, Int.reduceNeg, reduceCtorEq]; rfl, by omega, ?_, hx.trans (x1.mono hx.size)⟩, by omega⟩
      rw [List.take_add_one, List.take_add_one, ht, hLi, hMi]
  · have c1 : ¬ (i : Int) < L.length := by omega
    simp only [go_sem, ↓reduceIte, Nat.reduceEqDiff, Nat.reduceLeDiff, Nat.reduceAdd, Nat.reduceMul, Nat.reduceSub, Nat.reduceBEq, Nat.reduceGT, Nat.reduceLT, Int.reduceLE, Int.reduceLT, Int.reduceNeg, reduceCtorEq, c35_L0, e0, e1, e5, c1]
    have : i = L.length := by omega
    subst this
    rw [List.take_of_length_le (Nat.le_refl _), hlen, List.take_of_length_le (Nat.le_refl _)] at ht
    simp only [ht, decide_true]
    exact ⟨trivial, hx⟩
-- 34: pith/pithref.SameTexts
abbrev Txts (H : Heap) (v : Value) (ns : List ByteArray) : Prop := Sl H 9 1 v (ns.map .string)
theorem txts_form {H : Heap} {v : Value} {ns : List ByteArray} (h : Txts H v ns) : ∃ a cap, v = .slice a ns.length cap := by
  obtain ⟨a, len, cap, rfl⟩ := Sl.form h
  have := Sl.length h
  rw [List.length_map, Nat.mul_one] at this
  exact ⟨a, cap, by rw [this]⟩
theorem txts_at {H : Heap} {a : Option Addr} {len cap : Nat} {ns : List ByteArray} (h : Txts H (.slice a len cap) ns) {i : Nat} {n : ByteArray} (hi : ns[i]? = some n) : ∃ b o, a = some ⟨b, o, none⟩ ∧ hget H b (o + i) = some (.string n) := by
  have hl := Sl.length h
  rw [List.length_map, Nat.mul_one] at hl
  have hlt := (List.getElem?_eq_some_iff.1 hi).1
  obtain ⟨b, o, rfl⟩ := Sl.at h (by omega)
  exact ⟨b, o, rfl, by rw [Sl.get h (i := i) (by omega), List.getElem?_map, hi]; rfl⟩
theorem F34 (v v' : Value) (L M : List ByteArray) (H : Heap) (hv : Txts H v L) (hv' : Txts H v' M) (hl : L.length ≤ 2932031000000) :
    Fun Tryd.prog 34 #[v, v'] H (fun r H' => r = .bool (decide (L = M)) ∧ H = H') := by
  obtain ⟨a, c, rfl⟩ := txts_form hv
  obtain ⟨a', c', rfl⟩ := txts_form hv'
  refine fun_of mixed (args := [_, _]) Tryd.func34 Tryd.ntmps34 b34 r34 rfl ?_
  simp only [go_sem, ↓reduceIte, Nat.reduceEqDiff, Nat.reduceLeDiff, Nat.reduceAdd, Nat.reduceMul, Nat.reduceSub, Nat.reduceBEq, Nat.reduceGT, Nat.reduceLT, Int.reduceLE, Int.reduceLT, Int.reduceNeg, reduceCtorEq]
  refine ⟨fun h => ?_, fun h => ?_⟩
  · have : ¬ L = M := fun e => h (by rw [e])
    simp only [this, decide_false]
  refine LoopI.by mixed (fun ρ H' => H = H' ∧ ∃ i : Nat, ρ 0 = .slice a L.length c ∧ ρ 1 = .slice a' M.length c' ∧ ρ 5 = .int .i64 i ∧ i ≤ L.length ∧ L.take i = M.take i) (fun ρ _ => L.length - (iof (ρ 5)).toNat) ?_ ?_
  · exact ⟨rfl, 0, by simp only [go_sem, ↓reduceIte, Nat.reduceEqDiff, Nat.reduceLeDiff, Nat.reduceAdd, Nat.reduceMul, Nat.reduceSub, Nat.reduceBEq, Nat.reduceGT, Nat.reduceLT, Int.reduceLE, Int.reduceLT, Int.reduceNeg, reduceCtorEq], by simp only [go_sem, ↓reduceIte, Nat.reduceEqDiff, Nat.reduceLeDiff, Nat.reduceAdd, Nat.reduceMul, Nat.reduceSub, Nat.reduceBEq, Nat.reduceGT, Nat.reduceLT, Int.reduceLE, Int.reduceLT, Int.reduceNeg, reduceCtorEq], by simp only [go_sem, ↓reduceIte, Nat.reduceEqDiff, Nat.reduceLeDiff, Nat.reduceAdd, Nat.reduceMul, Nat.reduceSub, Nat.reduceBEq, Nat.reduceGT, Nat.reduceLT, Int.reduceLE, Int.reduceLT, Int.reduceNeg, reduceCtorEq]; rfl, by omega, by simp⟩
  rintro ρ _ ⟨rfl, i, e0, e1, e5, hi, ht⟩
  have hlen : L.length = M.length := by omega
  by_cases hlt : i < L.length
  · obtain ⟨x, hLi⟩ : ∃ x, L[i]? = some x := ⟨_, List.getElem?_eq_getElem hlt⟩
    obtain ⟨y, hMi⟩ : ∃ x, M[i]? = some x := ⟨_, List.getElem?_eq_getElem (hlen ▸ hlt)⟩
    obtain ⟨b, o, rfl, gs⟩ := txts_at hv hLi
    obtain ⟨b', o', rfl, ks⟩ := txts_at hv' hMi
    have c1 : (i : Int) < L.length := by omega
    have c2 : (i : Int) < M.length := by omega
    have c0 : (0 : Int) ≤ i := by omega
    have hne : L = M → x = y := fun h => by
      rw [h, hMi] at hLi
      exact (Option.some.inj hLi).symm
    simp only [go_sem, ↓reduceIte, Nat.reduceEqDiff, Nat.reduceLeDiff, Nat.reduceAdd, Nat.reduceMul, Nat.reduceSub, Nat.reduceBEq, Nat.reduceGT, Nat.reduceLT, Int.reduceLE, Int.reduceLT, Int.reduceNeg, reduceCtorEq, c34_L0, e0, e1, e5, c0, c1, c2, Int.toNat_natCast, gs, ks, str_dec]
    refine ⟨fun hd => ?_, fun hd => ?_⟩
    · have : ¬ L = M := fun e => hd (hne e)
      simp only [this, decide_false]
    · subst hd
      rw [w64_id (by omega) (by omega)]
      refine ⟨Hold.mk ⟨rfl, i + 1, by simp only [go_sem, ↓reduceIte, Nat.reduceEqDiff, Nat.reduceLeDiff, Nat.reduceAdd, Nat.reduceMul, Nat.reduceSub, Nat.reduceBEq, Nat.reduceGT, Nat.reduceLT, Int.reduceLE, Int.reduceLT, Int.reduceNeg, reduceCtorEq, e0], by simp only [go_sem, ↓reduceIte, Nat.reduceEqDiff, Nat.reduceLeDiff, Nat.reduceAdd, Nat.reduceMul, Nat.reduceSub, Nat.reduceBEq, Nat.reduceGT, Nat.reduceLT, Int.reduceLE, Int.reduceLT, Int.reduceNeg, reduceCtorEq, e1], by simp only [go_sem, ↓reduceIte, Nat.reduceEqDiff, Nat.reduceLeDiff, Nat.reduceAdd, Nat.reduceMul, Nat.reduceSub, Nat.reduceBEq, Nat.reduceGT, Nat.reduceLT, Int.reduceLE, Int.reduceLT, Int.reduceNeg, reduceCtorEq]; rfl, by omega, ?_⟩, by omega⟩
      rw [List.take_add_one, List.take_add_one, ht, hLi, hMi]
  · have c1 : ¬ (i : Int) < L.length := by omega
    simp only [go_sem, ↓reduceIte, Nat.reduceEqDiff, Nat.reduceLeDiff, Nat.reduceAdd, Nat.reduceMul, Nat.reduceSub, Nat.reduceBEq, Nat.reduceGT, Nat.reduceLT, Int.reduceLE, Int.reduceLT, Int.reduceNeg, reduceCtorEq, c34_L0, e0, e1, e5, c1]
    have : i = L.length := by omega
    subst this
    rw [List.take_of_length_le (Nat.le_refl _), hlen, List.take_of_length_le (Nat.le_refl _)] at ht
    simp only [ht, decide_true]
end Go.Proofs.YtgpoldjpmcoppaaDoor
