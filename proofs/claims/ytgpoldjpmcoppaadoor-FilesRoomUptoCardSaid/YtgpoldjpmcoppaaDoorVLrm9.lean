/- The law FilesRoom, over heaps. -/
import Derived.Test.YtgpoldjpmcoppaaDoorVLd9
import Derived.Test.YtgpoldjpmcoppaaDoorVPub2
import Derived.Test.YtgpoldjpmcoppaaDoorVCodeL
set_option linter.unusedSimpArgs false
set_option linter.unusedVariables false
set_option maxRecDepth 20000
namespace Go.V
open Go
def oldB : List Int := [111, 108, 100]
def newB : List Int := [110, 101, 119]
end Go.V
namespace Go.Proofs.YtgpoldjpmcoppaaDoor
open Go Go.V
-- 7: pith/pithlaw9.FilesRoom
-- 9: pith/pithlaw9.first
-- 10: pith/fs.New
-- 11: pith/pithlaw9.clipped
-- 21: pith/pithlaw9.pick
-- 30: pith/files.Publish
-- 13: pith/files.Load
-- 31: (*pith/fs.FS).Names
-- 33: (*pith/fs.FS).Lasting
-- 32: pith/pithref.Files
-- 19: pith/pithlaw9.num
-- 14: pith/pithref.SameBytes
-- 15: pith/pithref.SameByteLists
-- 34: pith/pithref.SameTexts
-- 35: pith/pithref.SameFiles
-- 22: []uint8
-- 23: [][]uint8
-- 5: uint8
theorem tnF_nm : isNm (tn nmF) = true := by decide +kernel
theorem tnF_ne : tn nmF ≠ nmF := by decide +kernel
theorem oldB_byt : Byt oldB := by simp [Byt, oldB]
theorem newB_byt : Byt newB := by simp [Byt, newB]
theorem no_load {s : St} (h : Peace s) {n : Nm} (hn : isNm n = true) (hx : s.now n = none) {hd : List Int} {l : List (List Int)} {e : Int} (hL : Loads s n hd l e) : hd = [] ∧ l = [] ∧ e = 82 := by
  have hf : findS s n = (none, 82) := by unfold findS; rw [begin_calm h.on hn, hx]; simp
  have hr : ∀ a k, readS s n a k = ([], 82) := fun a k => by unfold readS; rw [hf]
  have hnx : nextF s (newR n) = (newR n, 0, [], 82) := by
    unfold nextF
    simp only [show (newR n).name = n from rfl, hr]
    rw [if_pos (by decide)]
  have ho : openF s n = (newR n, [], 82) := by
    unfold openF
    simp only [hnx]
    rw [if_pos (by decide)]
  unfold Loads at hL
  rw [ho, if_pos (show (82 : Int) ≠ 0 by decide)] at hL
  exact hL
theorem loads_short {s : St} (h : Peace s) {n : Nm} (hn : isNm n = true) (hs : s.now n = none ∨ ∃ y hd l, s.now n = some y ∧ s.dat y = rowB (fileR hd l) ∧ hd.length ≤ 1024 ∧ (∀ p ∈ l, p.length ≤ 1024) ∧ l.length ≤ 40) {hd : List Int} {l : List (List Int)} {e : Int} (hL : Loads s n hd l e) : l.length ≤ 40 := by
  rcases hs with hs | ⟨y, hd1, l1, h1, h2, h3, h4, h5⟩
  · rw [(no_load h hn hs hL).2.1]; simp
  · rw [(loads_file h h1 h2 h3 h4 hL).2.1]; exact h5
set_option maxHeartbeats 6400000 in
theorem F7 (rm : Int) (u : Value) (l1 : List (List Int)) (v : Value) (l2 : List (List Int)) (H : Heap) (hrm : -9223372036854775808 ≤ rm ∧ rm < 9223372036854775808) (hu : Lists H 22 5 u l1) (hbu : ∀ x ∈ l1, Byt x) (hv : Lists H 22 5 v l2) (hbl : ∀ x ∈ l2, Byt x) (ht : CrcTab H) (hl1 : l1.length ≤ 1048576) (hl2 : l2.length ≤ 1048576) :
    Fun Tryd.prog 7 #[.int .i64 rm, u, v] H (fun r H' => r = .bool true ∧ Ext H H') := by
  obtain ⟨ua, uc, rfl⟩ := hu.form
  obtain ⟨va, vc, rfl⟩ := hv.form
  refine fun_of mixed (args := [_, _, _]) Tryd.func7 Tryd.ntmps7 b7 r7 rfl ?_
  simp only [go_sem, ↓reduceIte, Nat.reduceEqDiff, Nat.reduceLeDiff, Nat.reduceAdd, Nat.reduceMul, Nat.reduceSub, Nat.reduceBEq, Nat.reduceGT, Nat.reduceLT, Int.reduceLE, Int.reduceLT, Int.reduceNeg, reduceCtorEq]
  refine FunI.by (F9 H ht) ?_
  rintro _ H1 ⟨rfl, x1⟩
  simp only [go_sem, ↓reduceIte, Nat.reduceEqDiff, Nat.reduceLeDiff, Nat.reduceAdd, Nat.reduceMul, Nat.reduceSub, Nat.reduceBEq, Nat.reduceGT, Nat.reduceLT, Int.reduceLE, Int.reduceLT, Int.reduceNeg, reduceCtorEq]
  refine FunI.by (F21 rm 3000 (by omega) (by omega) H1) ?_
  rintro _ _ ⟨rfl, rfl⟩
  obtain ⟨R, hR⟩ : ∃ R, R = pickN rm 3000 := ⟨_, rfl⟩
  have hRb : R < 3000 := by rw [hR]; exact (pick_nums rm 3000 (by omega) (by omega)).1
  rw [← hR]
  simp only [go_sem, ↓reduceIte, Nat.reduceEqDiff, Nat.reduceLeDiff, Nat.reduceAdd, Nat.reduceMul, Nat.reduceSub, Nat.reduceBEq, Nat.reduceGT, Nat.reduceLT, Int.reduceLE, Int.reduceLT, Int.reduceNeg, reduceCtorEq]
  refine FunI.by (F10 (R : Int) H1 trivial) ?_
  rintro _ H2 ⟨x2, h⟩
  rw [if_neg (by omega)] at h
  obtain ⟨b, F, rfl, h2, n2⟩ := h
  have x12 : Ext H H2 := Upto.ext x1 x1.size x2
  have hs1 := x1.size
  have nF : ∀ g, F g → H.size ≤ g := fun g hg => Nat.le_trans hs1 (n2 g hg)
  have lF : ∀ g, F g → g < H2.size := fun g hg => FsH.lt h2 hg
  simp only [go_sem, ↓reduceIte, Nat.reduceEqDiff, Nat.reduceLeDiff, Nat.reduceAdd, Nat.reduceMul, Nat.reduceSub, Nat.reduceBEq, Nat.reduceGT, Nat.reduceLT, Int.reduceLE, Int.reduceLT, Int.reduceNeg, reduceCtorEq, ptrOf]
  refine FunI.by (F11 _ l1 x12 hu) ?_
  rintro wu H3 ⟨vsa, owa, haa, x3⟩
  have x13 : Ext H H3 := Upto.ext x12 x12.size x3
  have hs3 := x3.size
  simp only [go_sem, ↓reduceIte, Nat.reduceEqDiff, Nat.reduceLeDiff, Nat.reduceAdd, Nat.reduceMul, Nat.reduceSub, Nat.reduceBEq, Nat.reduceGT, Nat.reduceLT, Int.reduceLE, Int.reduceLT, Int.reduceNeg, reduceCtorEq, ptrOf]
  refine FunI.by (F11 _ l2 x13 hv) ?_
  rintro wv H4 ⟨vsb, owb, hab, x4⟩
  have x14 : Ext H H4 := Upto.ext x13 x13.size x4
  have hs4 := x4.size
  have A4 := awl_of (F := F) (owa.ext x4) haa x14 nF (fun g hg => by have := lF g hg; omega)
  have B4 := awl_of (F := F) owb hab x14 nF (fun g hg => by have := lF g hg; omega)
  obtain ⟨ca1, ca2, ca3⟩ := clipL_facts hbu
  obtain ⟨cb1, cb2, cb3⟩ := clipL_facts hbl
  obtain ⟨a, ea⟩ : ∃ z, z = clipL l1 := ⟨_, rfl⟩
  obtain ⟨q, eq⟩ : ∃ z, z = clipL l2 := ⟨_, rfl⟩
  rw [← ea] at A4 ca1 ca2 ca3
  rw [← eq] at B4 cb1 cb2 cb3
  obtain ⟨wua, wuc, rfl⟩ := A4.form
  obtain ⟨wva, wvc, rfl⟩ := B4.form
  have p0 : Peace (freshS R) := Peace.fresh (by omega)
  have N4 : Newly H H4 F := ⟨x14, nF⟩
  have h4 := (h2.ext x3).ext x4
  have lt : ∀ {G : Heap} {c : Array Value} {fr : Nat × Nat}, Ext G (G.push (.cells c 5 fr)) := fun {G c fr} => Ext.push _
  have lit : ∀ {G : Heap} {F : Nat → Prop} {s : St} {c : Array Value} {fr : Nat × Nat} {xs : List Int} {n : Nat}, FsH G F b s → c.toList = xs.map (.int .u8) → xs.length = n → Aw (G.push (.cells c 5 fr)) F (G.push (.cells c 5 fr)).size (.slice (some ⟨G.size, 0, none⟩) n n) xs := fun {G F s c fr xs n} hF hc hn =>
    ⟨lit_ints hc hn, .inr fun g hg => by
      have : G.size = g := by simpa [blk] using hg
      subst this
      exact ⟨fun e => by have := FsH.lt hF e; omega, by simp⟩⟩
  clear owa owb haa hab x3 x4 x13 x12 x2 h2
  simp only [go_sem, ↓reduceIte, Nat.reduceEqDiff, Nat.reduceLeDiff, Nat.reduceAdd, Nat.reduceMul, Nat.reduceSub, Nat.reduceBEq, Nat.reduceGT, Nat.reduceLT, Int.reduceLE, Int.reduceLT, Int.reduceNeg, reduceCtorEq, ptrOf]
  refine RunI.by (conv_mark ty22 ty5) ?_
  rintro _ _ ⟨rfl, rfl⟩
  have u5 := lit (c := #[.int .u8 111, .int .u8 108, .int .u8 100]) (fr := (3, 4)) (xs := oldB) h4 rfl rfl
  have x45 := lt (G := H4) (c := #[.int .u8 111, .int .u8 108, .int .u8 100]) (fr := (3, 4))
  have s45 : (H4.push (.cells #[.int .u8 111, .int .u8 108, .int .u8 100] 5 (3, 4))).size = H4.size + 1 := by simp
  obtain ⟨H5, hH5⟩ : ∃ H5, H5 = H4.push (.cells #[.int .u8 111, .int .u8 108, .int .u8 100] 5 (3, 4)) := ⟨_, rfl⟩
  rw [← hH5] at u5 x45 s45
  have N5 := N4.ext x45
  have h5 := h4.ext x45
  have A5 := A4.keep (X := fun _ => False) x45.chx (fun _ e => e.elim) (Nat.le_refl _)
  have B5 := B4.keep (X := fun _ => False) x45.chx (fun _ e => e.elim) (Nat.le_refl _)
  obtain ⟨f5, t5⟩ := N5.stg0 ht
  simp only [go_sem, ↓reduceIte, Nat.reduceEqDiff, Nat.reduceLeDiff, Nat.reduceAdd, Nat.reduceMul, Nat.reduceSub, Nat.reduceBEq, Nat.reduceGT, Nat.reduceLT, Int.reduceLE, Int.reduceLT, Int.reduceNeg, reduceCtorEq, ptrOf]
  rw [← hH5]
  refine FunI.by (F30 (n := nmF) h5 p0.ok (by show (0 : Int) < _; decide) f5 t5 u5 (A5.up (by omega)) oldB_byt ca3 (by decide) (fun x hx => by have := ca2 x hx; omega) (by omega) (by decide)) ?_
  rintro _ H6 ⟨f, F6, hf, rfl, h6, cx6⟩
  have pr := pub_room p0 nmF_nm tnF_nm rfl hf (hd := oldB) (l := a) (by decide) oldB_byt (fun p hp => ⟨ca2 p hp, ca3 p hp⟩)
  have N6 := N5.chx cx6 (fun _ e => e.elim)
  have A6 := A5.keep cx6 (fun _ e => e.elim) (by omega)
  have B6 := B5.keep cx6 (fun _ e => e.elim) (by omega)
  obtain ⟨f6, t6⟩ := N6.stg0 ht
  -- the state behind the first Publish
  obtain ⟨s1, hs1e⟩ : ∃ s1, s1 = (pubS (freshS R) nmF oldB a f).1 := ⟨_, rfl⟩
  rw [← hs1e] at h6
  have st1 : Peace s1 ∧ s1.now (tn nmF) = none ∧ (s1.now nmF = none ∨ ∃ y hd l, s1.now nmF = some y ∧ s1.dat y = rowB (fileR hd l) ∧ hd.length ≤ 1024 ∧ (∀ p ∈ l, p.length ≤ 1024) ∧ l.length ≤ 40) := by
    rcases pr with ⟨s', e, P, hn, _⟩ | ⟨s', e, L⟩
    · rw [hs1e, e]
      refine ⟨P.pc, ?_, .inr ⟨f, oldB, a, P.now, P.dat, by decide, ca2, ca1⟩⟩
      simp only
      rw [hn]
      unfold moveD
      simp [tnF_ne, isNm_ne tnF_nm]
    · rw [hs1e, e]
      exact ⟨L.pc, by simp only; rw [L.now]; rfl, .inl (by simp only; rw [L.now]; rfl)⟩
  obtain ⟨pc1, tn1, fl1⟩ := st1
  have ops1 : s1.ops ≤ 1000 := by have := pub_ops (freshS R) nmF oldB a f; rw [hs1e]; have e0 : (freshS (R : Int)).ops = 0 := rfl; omega
  clear pr hs1e
  simp only [go_sem, ↓reduceIte, Nat.reduceEqDiff, Nat.reduceLeDiff, Nat.reduceAdd, Nat.reduceMul, Nat.reduceSub, Nat.reduceBEq, Nat.reduceGT, Nat.reduceLT, Int.reduceLE, Int.reduceLT, Int.reduceNeg, reduceCtorEq, ptrOf]
  refine FunI.by (F13 (n := nmF) h6 pc1.ok t6) ?_
  rintro _ H7 ⟨hd7, l7, e7, u7, v7, rfl, hL7, x7, o7, ol7⟩
  have l7s := loads_short pc1 nmF_nm fl1 hL7
  have by7 := hL7.byts pc1.ok
  have h7 := h6.ext x7
  have N7 := N6.ext x7
  have l6 : ∀ g, F6 g → g < H6.size := fun g hg => FsH.lt h6 hg
  have hs7 := x7.size
  obtain ⟨u7a, u7c, rfl⟩ := Ints.form (xs := hd7) (k := .u8) o7.sl
  obtain ⟨v7a, v7c, rfl⟩ := ol7.lists.form
  obtain ⟨_, _, _, _, _, hP7⟩ := h7
  simp only [go_sem, ↓reduceIte, Nat.reduceEqDiff, Nat.reduceLeDiff, Nat.reduceAdd, Nat.reduceMul, Nat.reduceSub, Nat.reduceBEq, Nat.reduceGT, Nat.reduceLT, Int.reduceLE, Int.reduceLT, Int.reduceNeg, reduceCtorEq, ptrOf]
  refine FunI.by (F31 hP7 pc1.ok (by omega)) ?_
  rintro w8 H8 ⟨ns8, hns8, o8, x8⟩
  rw [if_neg (by rw [pc1.on]; decide)] at hns8
  have nl8 := names_len hns8 pc1.ok.nowI pc1.ok.nowH
  have hl1' := pc1.ok.hlen
  obtain ⟨w8a, w8c, rfl⟩ := txts_form (ns := ns8) o8.sl
  have hs8 := x8.size
  simp only [go_sem, ↓reduceIte, Nat.reduceEqDiff, Nat.reduceLeDiff, Nat.reduceAdd, Nat.reduceMul, Nat.reduceSub, Nat.reduceBEq, Nat.reduceGT, Nat.reduceLT, Int.reduceLE, Int.reduceLT, Int.reduceNeg, reduceCtorEq, ptrOf]
  refine FunI.by (F33 (hP7.ext x8) pc1.ok (by omega)) ?_
  rintro w9 H9 ⟨ns9, P9, hns9, hP9, oP9, x9⟩
  have nl9 := names_len hns9 pc1.ok.lastI pc1.ok.lastH
  have lP9 : (P9.map (·.2)).length = ns9.length := by rw [hP9, List.length_map]
  have rm1 := pc1.ok.room
  have dl1 : ∀ x ∈ ns9.map (fun n => (n, V.lastD s1 n)), x.2.length ≤ 2147483647 ∧ Byt x.2 := fun x hx => by
    obtain ⟨n, hn, rfl⟩ := List.mem_map.1 hx
    simp only
    unfold V.lastD
    cases hx : s1.last n with
    | none => exact ⟨by simp, fun c hc => by cases hc⟩
    | some y =>
      have hy := pc1.ok.lastH _ _ hx
      have := dat_le pc1.ok hy
      simp only
      exact ⟨by rw [List.length_take]; omega, fun c hc => pc1.ok.byt _ hy c (List.mem_of_mem_take hc)⟩
  have fN9 : FilesN H9 (fun _ => True) w9 (P9.map (·.2)) := oP9.n fun _ _ _ => trivial
  have hs9 := x9.size
  simp only [go_sem, ↓reduceIte, Nat.reduceEqDiff, Nat.reduceLeDiff, Nat.reduceAdd, Nat.reduceMul, Nat.reduceSub, Nat.reduceBEq, Nat.reduceGT, Nat.reduceLT, Int.reduceLE, Int.reduceLT, Int.reduceNeg, reduceCtorEq, ptrOf]
  refine FunI.by (F32 w9 (P9.map (·.2)) H9 fN9 (by omega) (fun x hx => by rw [hP9] at hx; have := (dl1 x hx).1; omega)) ?_
  rintro w10 H10 ⟨Q10, hQ10, oQ10, x10⟩
  have hs10 := x10.size
  have fN10 : FilesN H10 (fun g => H9.size ≤ g ∧ g < H10.size) w10 (Q10.map (·.2)) := oQ10.n fun g g1 g2 => ⟨g1, g2⟩
  rw [hQ10, hP9] at fN10
  obtain ⟨w10a, w10c, ew10⟩ := fN10.form
  subst ew10
  have x6A : Ext H6 H10 := Upto.ext (Upto.ext (Upto.ext x7 x7.size x8) (by omega) x9) (by omega) x10
  have h10 := h6.ext x6A
  simp only [go_sem, ↓reduceIte, Nat.reduceEqDiff, Nat.reduceLeDiff, Nat.reduceAdd, Nat.reduceMul, Nat.reduceSub, Nat.reduceBEq, Nat.reduceGT, Nat.reduceLT, Int.reduceLE, Int.reduceLT, Int.reduceNeg, reduceCtorEq, ptrOf]
  refine RunI.by (conv_mark ty22 ty5) ?_
  rintro _ _ ⟨rfl, rfl⟩
  have u11 := lit (c := #[.int .u8 110, .int .u8 101, .int .u8 119]) (fr := (3, 4)) (xs := newB) h10 rfl rfl
  have xAB := lt (G := H10) (c := #[.int .u8 110, .int .u8 101, .int .u8 119]) (fr := (3, 4))
  have sAB : (H10.push (.cells #[.int .u8 110, .int .u8 101, .int .u8 119] 5 (3, 4))).size = H10.size + 1 := by simp
  obtain ⟨HB, hHB⟩ : ∃ HB, HB = H10.push (.cells #[.int .u8 110, .int .u8 101, .int .u8 119] 5 (3, 4)) := ⟨_, rfl⟩
  rw [← hHB] at u11 xAB sAB
  have x6B : Ext H6 HB := Upto.ext x6A x6A.size xAB
  have NB := N6.ext x6B
  have hB := h6.ext x6B
  have hs6 := cx6.size
  have BB := B6.keep (X := fun _ => False) x6B.chx (fun _ e => e.elim) (by omega)
  obtain ⟨fB, tB⟩ := NB.stg0 ht
  simp only [go_sem, ↓reduceIte, Nat.reduceEqDiff, Nat.reduceLeDiff, Nat.reduceAdd, Nat.reduceMul, Nat.reduceSub, Nat.reduceBEq, Nat.reduceGT, Nat.reduceLT, Int.reduceLE, Int.reduceLT, Int.reduceNeg, reduceCtorEq, ptrOf]
  rw [← hHB]
  refine FunI.by (F30 (n := nmF) hB pc1.ok (by omega) fB tB u11 (BB.up (by omega)) newB_byt cb3 (by decide) (fun x hx => by have := cb2 x hx; omega) (by omega) (by decide)) ?_
  rintro _ HC ⟨g, FC, hg, rfl, hC, cxC⟩
  have pr := pub_room pc1 nmF_nm tnF_nm tn1 hg (hd := newB) (l := q) (by decide) newB_byt (fun p hp => ⟨cb2 p hp, cb3 p hp⟩)
  have NC := NB.chx cxC (fun _ e => e.elim)
  have BC := BB.keep cxC (fun _ e => e.elim) (by omega)
  obtain ⟨fC, tC⟩ := NC.stg0 ht
  have kk : ∀ x, H6.size ≤ x → x < HB.size → HC[x]? = HB[x]? := fun x h1 h2 => cxC.get x h2 (fun e => by have := l6 x e; omega) (fun e => e)
  have opsC := pub_ops s1 nmF newB q g
  rcases pr with ⟨s2, e2, P2, hn2, _⟩ | ⟨s2, e2, L2⟩
  · rw [e2] at hC ⊢
    simp only at hC
    have hC' : FsH HC FC b s2 := hC
    simp only [go_sem, ↓reduceIte, Nat.reduceEqDiff, Nat.reduceLeDiff, Nat.reduceAdd, Nat.reduceMul, Nat.reduceSub, Nat.reduceBEq, Nat.reduceGT, Nat.reduceLT, Int.reduceLE, Int.reduceLT, Int.reduceNeg, reduceCtorEq, ptrOf]
    refine FunI.by (F13 (n := nmF) hC' P2.pc.ok tC) ?_
    rintro _ HD ⟨hdD, lD, eD, uD, vD, rfl, hLD, xD, oD, olD⟩
    obtain ⟨e51, e52, e53⟩ := loads_file P2.pc P2.now P2.dat (by decide) cb2 hLD
    rw [e51] at oD
    rw [e52] at olD
    subst e53
    obtain ⟨uDa, uDc, rfl⟩ := Ints.form (xs := newB) (k := .u8) oD.sl
    obtain ⟨vDa, vDc, rfl⟩ := olD.lists.form
    simp only [go_sem, ↓reduceIte, Nat.reduceEqDiff, Nat.reduceLeDiff, Nat.reduceAdd, Nat.reduceMul, Nat.reduceSub, Nat.reduceBEq, Nat.reduceGT, Nat.reduceLT, Int.reduceLE, Int.reduceLT, Int.reduceNeg, reduceCtorEq, ptrOf]
    refine FunI.by (F19 _ _) ?_
    rintro _ _ ⟨rfl, rfl⟩
    simp only [go_sem, ↓reduceIte, Nat.reduceEqDiff, Nat.reduceLeDiff, Nat.reduceAdd, Nat.reduceMul, Nat.reduceSub, Nat.reduceBEq, Nat.reduceGT, Nat.reduceLT, Int.reduceLE, Int.reduceLT, Int.reduceNeg, reduceCtorEq]
    refine RunI.by (conv_mark ty22 ty5) ?_
    rintro _ _ ⟨rfl, rfl⟩
    have xE := lt (G := HD) (c := #[.int .u8 110, .int .u8 101, .int .u8 119]) (fr := (3, 4))
    simp only [go_sem, ↓reduceIte, Nat.reduceEqDiff, Nat.reduceLeDiff, Nat.reduceAdd, Nat.reduceMul, Nat.reduceSub, Nat.reduceBEq, Nat.reduceGT, Nat.reduceLT, Int.reduceLE, Int.reduceLT, Int.reduceNeg, reduceCtorEq]
    refine FunI.by (F14 _ _ newB newB _ (oD.ext xE).sl (lit_ints rfl rfl) newB_byt newB_byt) ?_
    rintro _ _ ⟨rfl, rfl⟩
    simp only [go_sem, ↓reduceIte, Nat.reduceEqDiff, Nat.reduceLeDiff, Nat.reduceAdd, Nat.reduceMul, Nat.reduceSub, Nat.reduceBEq, Nat.reduceGT, Nat.reduceLT, Int.reduceLE, Int.reduceLT, Int.reduceNeg, reduceCtorEq]
    have BD := ((BC.keep (X := fun _ => False) xD.chx (fun _ e => e.elim) (by have := cxC.size; omega)).keep (X := fun _ => False) xE.chx (fun _ e => e.elim) (by have := cxC.size; have := xD.size; omega))
    refine FunI.by (F15 _ _ q q _ (olD.ext xE).lists BD.lists cb3 cb3 (by omega)) ?_
    rintro _ _ ⟨rfl, rfl⟩
    simp only [go_sem, ↓reduceIte, Nat.reduceEqDiff, Nat.reduceLeDiff, Nat.reduceAdd, Nat.reduceMul, Nat.reduceSub, Nat.reduceBEq, Nat.reduceGT, Nat.reduceLT, Int.reduceLE, Int.reduceLT, Int.reduceNeg, reduceCtorEq]
    refine FunI.by (F19 _ _) ?_
    rintro _ _ ⟨rfl, rfl⟩
    simp only [go_sem, ↓reduceIte, Nat.reduceEqDiff, Nat.reduceLeDiff, Nat.reduceAdd, Nat.reduceMul, Nat.reduceSub, Nat.reduceBEq, Nat.reduceGT, Nat.reduceLT, Int.reduceLE, Int.reduceLT, Int.reduceNeg, reduceCtorEq]
    exact ((NC.ext xD).ext xE).1
  · rw [e2] at hC ⊢
    simp only at hC
    have hC' : FsH HC FC b s2 := hC
    have off2 : s2.off = s1.off := by rw [L2.pc.on, pc1.on]
    simp only [go_sem, ↓reduceIte, Nat.reduceEqDiff, Nat.reduceLeDiff, Nat.reduceAdd, Nat.reduceMul, Nat.reduceSub, Nat.reduceBEq, Nat.reduceGT, Nat.reduceLT, Int.reduceLE, Int.reduceLT, Int.reduceNeg, reduceCtorEq, ptrOf]
    refine FunI.by (F13 (n := nmF) hC' L2.pc.ok tC) ?_
    rintro _ HD ⟨hdD, lD, eD, uD, vD, rfl, hLD, xD, oD, olD⟩
    obtain ⟨e51, e52, e53⟩ := (hL7.congr (L2.read pc1.ok off2 nmF)).unique hLD
    rw [← e51] at oD
    rw [← e52] at olD
    subst e53
    have x8B : Ext H8 HB := Upto.ext (Upto.ext x9 x9.size x10) (by omega) xAB
    have x7B : Ext H7 HB := Upto.ext x8 x8.size x8B
    have xAD : Ext H10 HB := xAB
    have o7D := ((o7.ext x7B).keep (H' := HC) fun g hg => kk g ((o7.ext x7B).blk hg).1 ((o7.ext x7B).blk hg).2.1).ext xD
    have ol7D := (ownl_keep (H' := HC) (ol7.ext x7B) fun g g1 g2 => kk g g1 g2).ext xD
    have o8D := ((o8.ext x8B).keep (H' := HC) fun g hg => kk g (by have := ((o8.ext x8B).blk hg).1; omega) ((o8.ext x8B).blk hg).2.1).ext xD
    have fND := ((fN10.ext xAB).keep (H' := HC) (N' := fun g => H9.size ≤ g ∧ g < H10.size) cxC.size (fun g hg hl => kk g (by omega) hl) (fun _ h => h)).ext xD
    obtain ⟨uDa, uDc, rfl⟩ := Ints.form (xs := hd7) (k := .u8) oD.sl
    obtain ⟨vDa, vDc, rfl⟩ := olD.lists.form
    obtain ⟨_, _, _, _, _, hPD⟩ := hC'.ext xD
    simp only [go_sem, ↓reduceIte, Nat.reduceEqDiff, Nat.reduceLeDiff, Nat.reduceAdd, Nat.reduceMul, Nat.reduceSub, Nat.reduceBEq, Nat.reduceGT, Nat.reduceLT, Int.reduceLE, Int.reduceLT, Int.reduceNeg, reduceCtorEq, ptrOf]
    refine FunI.by (F19 _ _) ?_
    rintro _ _ ⟨rfl, rfl⟩
    simp only [go_sem, ↓reduceIte, Nat.reduceEqDiff, Nat.reduceLeDiff, Nat.reduceAdd, Nat.reduceMul, Nat.reduceSub, Nat.reduceBEq, Nat.reduceGT, Nat.reduceLT, Int.reduceLE, Int.reduceLT, Int.reduceNeg, reduceCtorEq, Int.reduceEq]
    refine FunI.by (F14 _ _ hd7 hd7 HD o7D.sl oD.sl by7.1 by7.1) ?_
    rintro _ _ ⟨rfl, rfl⟩
    simp only [go_sem, ↓reduceIte, Nat.reduceEqDiff, Nat.reduceLeDiff, Nat.reduceAdd, Nat.reduceMul, Nat.reduceSub, Nat.reduceBEq, Nat.reduceGT, Nat.reduceLT, Int.reduceLE, Int.reduceLT, Int.reduceNeg, reduceCtorEq]
    refine FunI.by (F15 _ _ l7 l7 HD ol7D.lists olD.lists by7.2 by7.2 (by omega)) ?_
    rintro _ _ ⟨rfl, rfl⟩
    simp only [go_sem, ↓reduceIte, Nat.reduceEqDiff, Nat.reduceLeDiff, Nat.reduceAdd, Nat.reduceMul, Nat.reduceSub, Nat.reduceBEq, Nat.reduceGT, Nat.reduceLT, Int.reduceLE, Int.reduceLT, Int.reduceNeg, reduceCtorEq]
    refine FunI.by (F19 _ _) ?_
    rintro _ _ ⟨rfl, rfl⟩
    simp only [go_sem, ↓reduceIte, Nat.reduceEqDiff, Nat.reduceLeDiff, Nat.reduceAdd, Nat.reduceMul, Nat.reduceSub, Nat.reduceBEq, Nat.reduceGT, Nat.reduceLT, Int.reduceLE, Int.reduceLT, Int.reduceNeg, reduceCtorEq]
    refine FunI.by (F19 _ _) ?_
    rintro _ _ ⟨rfl, rfl⟩
    have opD : s2.ops < 1099511627776 := by rw [e2] at opsC; simp only at opsC; omega
    simp only [go_sem, ↓reduceIte, Nat.reduceEqDiff, Nat.reduceLeDiff, Nat.reduceAdd, Nat.reduceMul, Nat.reduceSub, Nat.reduceBEq, Nat.reduceGT, Nat.reduceLT, Int.reduceLE, Int.reduceLT, Int.reduceNeg, reduceCtorEq, ptrOf]
    refine FunI.by (F31 hPD L2.pc.ok opD) ?_
    rintro wE HE ⟨nsE, hnsE, oE, xE⟩
    rw [if_neg (by rw [L2.pc.on]; decide), L2.now] at hnsE
    have enE := names_unique hnsE hns8
    rw [enE] at oE
    simp only [go_sem, ↓reduceIte, Nat.reduceEqDiff, Nat.reduceLeDiff, Nat.reduceAdd, Nat.reduceMul, Nat.reduceSub, Nat.reduceBEq, Nat.reduceGT, Nat.reduceLT, Int.reduceLE, Int.reduceLT, Int.reduceNeg, reduceCtorEq, ptrOf]
    refine FunI.by (F34 wE _ ns8 ns8 HE oE.sl (o8D.ext xE).sl (by omega)) ?_
    rintro _ _ ⟨rfl, rfl⟩
    simp only [go_sem, ↓reduceIte, Nat.reduceEqDiff, Nat.reduceLeDiff, Nat.reduceAdd, Nat.reduceMul, Nat.reduceSub, Nat.reduceBEq, Nat.reduceGT, Nat.reduceLT, Int.reduceLE, Int.reduceLT, Int.reduceNeg, reduceCtorEq, ptrOf]
    refine FunI.by (F33 (hPD.ext xE) L2.pc.ok opD) ?_
    rintro wF HF ⟨nsF, PF, hnsF, hPF, oPF, xF⟩
    rw [L2.last] at hnsF
    have enF := names_unique hnsF hns9
    have ePF : PF.map (·.2) = ns9.map (fun n => (n, V.lastD s1 n)) := by
      rw [hPF, enF]
      apply List.map_congr_left
      intro n _
      rw [L2.lasts pc1.ok]
    have fNF : FilesN HF (fun _ => True) wF (PF.map (·.2)) := oPF.n fun _ _ _ => trivial
    rw [ePF] at fNF
    simp only [go_sem, ↓reduceIte, Nat.reduceEqDiff, Nat.reduceLeDiff, Nat.reduceAdd, Nat.reduceMul, Nat.reduceSub, Nat.reduceBEq, Nat.reduceGT, Nat.reduceLT, Int.reduceLE, Int.reduceLT, Int.reduceNeg, reduceCtorEq, ptrOf]
    refine FunI.by (F35 wF _ _ _ HF fNF ((fND.ext xE).ext xF) (by rw [List.length_map]; omega) (fun x hx => (dl1 x hx).2) (fun x hx => (dl1 x hx).2)) ?_
    rintro _ HG ⟨rfl, xG⟩
    simp only [go_sem, ↓reduceIte, Nat.reduceEqDiff, Nat.reduceLeDiff, Nat.reduceAdd, Nat.reduceMul, Nat.reduceSub, Nat.reduceBEq, Nat.reduceGT, Nat.reduceLT, Int.reduceLE, Int.reduceLT, Int.reduceNeg, reduceCtorEq]
    refine FunI.by (F19 _ _) ?_
    rintro _ _ ⟨rfl, rfl⟩
    simp only [go_sem, ↓reduceIte, Nat.reduceEqDiff, Nat.reduceLeDiff, Nat.reduceAdd, Nat.reduceMul, Nat.reduceSub, Nat.reduceBEq, Nat.reduceGT, Nat.reduceLT, Int.reduceLE, Int.reduceLT, Int.reduceNeg, reduceCtorEq]
    exact ((((NC.ext xD).ext xE).ext xF).ext xG).1
end Go.Proofs.YtgpoldjpmcoppaaDoor
