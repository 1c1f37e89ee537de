/- The chapter's example, walked. -/
import Derived.Test.YtmkheogjnlmkdaaVFlE
set_option linter.unusedSimpArgs false
set_option linter.unusedVariables false
set_option maxRecDepth 20000
namespace Go.V
open Go
/-- All that there was is as it was, and F is new. -/
def Newly (H H' : Heap) (F : Nat → Prop) : Prop := Ext H H' ∧ ∀ g, F g → H.size ≤ g
theorem Newly.ch {H H1 H2 : Heap} {F F' : Nat → Prop} (h : Newly H H1 F) (c : Ch F F' H1 H2) : Newly H H2 F' := by
  refine ⟨⟨Nat.le_trans h.1.size c.size, fun b hb => ?_⟩, fun g hg => ?_⟩
  · rw [c.get b (Nat.lt_of_lt_of_le hb h.1.size) fun hf => by have := h.2 b hf; omega]
    exact h.1.get b hb
  · rcases c.old g hg with e | e
    · exact h.2 g e
    · exact Nat.le_trans h.1.size e
theorem Newly.ext {H H1 H2 : Heap} {F : Nat → Prop} (h : Newly H H1 F) (x : Ext H1 H2) : Newly H H2 F := ⟨h.1.trans (x.mono h.1.size), h.2⟩
end Go.V
namespace Go.Proofs.Ytmkheogjnlmkdaa
open Go Go.V
-- 11: pith/pithlaw8.first
-- 22: pith/pithlaw8.num
-- 12: pith/fs.New
-- 39: (*pith/fs.FS).Create
-- 20: (*pith/fs.FS).Append
-- 21: (*pith/fs.FS).Sync
-- 45: (*pith/fs.FS).Rename
-- 34: (*pith/fs.FS).SyncDir
-- 13: (*pith/fs.FS).Held
-- 25: (*pith/fs.FS).Crash
-- 31: (*pith/fs.FS).Read
-- 32: (*pith/fs.FS).Size
-- 30: (*pith/fs.FS).Ops
-- 29: (*pith/fs.FS).Power
-- 3: int
-- 62: []int
-- 5: uint8
-- 34: []uint8
-- 9: string
/-- A literal of bytes. -/
theorem lit_ints {H : Heap} {n : Nat} {c : Array Value} {fr : Nat × Nat} {xs : List Int} {k : IntKind} {e : TypeId} (hc : c.toList = xs.map (.int k)) (hn : xs.length = n) : Ints (H.push (.cells c e fr)) e k (.slice (some ⟨H.size, 0, none⟩) n n) xs := by
  refine Sl.of (c := c) (fr := fr) push_new (Nat.le_refl _) (by simp [hn]) fun i hi => ?_
  rw [Nat.zero_add, ← Array.getElem?_toList, hc]
def dots : List Int := [46, 46]
def hy7 : List Int := [104, 101, 108, 108, 111, 32, 121]
theorem ea1 (x : Nat) : appendS (exS x [] 0 1) nA hello = (exS x hello 0 2, 0) := by rw [ex_append, if_neg (by decide)]; rfl
theorem es1 (x : Nat) : syncS (exS x hello 0 2) nA = (exS x hello 5 3, 0) := by rw [ex_sync]; rfl
theorem ea2 (x : Nat) : appendS (exS x hello 5 3) nA you = (exS x (hello ++ you) 5 4, 0) := by rw [ex_append, if_neg (by decide)]; rfl
theorem ea3 (x : Nat) : appendS (exS x (hello ++ you) 5 4) nA dots = (exS x (hello ++ you) 5 4, 80) := by rw [ex_append, if_pos (by decide)]
theorem esd (x : Nat) : syncDirS (exS x (hello ++ you) 5 4) = (exT x (hello ++ you) 5 5, 0) := by rw [ex_syncdir]; rfl
theorem ern (x : Nat) : renameS (exT x (hello ++ you) 5 5) nA nB = (exU x (hello ++ you) 5 6, 0) := by rw [ex_rename]; rfl
theorem ecr (x : Nat) : crashS (exU x (hello ++ you) 5 6) 1 [2] [nB] = exV x hy7 6 := by rw [ex_crash _ _ _ _ (by decide)]; rfl
theorem erd (x : Nat) : readS (exV x hy7 6) nB 0 99 = (hy7, 0) := by
  have : findS (exV x hy7 6) nB = (some x, 0) := by
    rw [find_on rfl nB_nm]
    have : (exV x hy7 6).now nB = some x := by show exD2 x nB = _; rw [exD2_get, if_pos rfl]
    rw [this]
  unfold readS
  rw [this]
  simp only
  rw [if_neg (by omega)]
  simp [exV, setF]
  rfl
theorem esz (x : Nat) : sizeS (exV x hy7 6) nA = (0, 82) := by
  have : findS (exV x hy7 6) nA = (none, 82) := by
    rw [find_on rfl nA_nm]
    have : (exV x hy7 6).now nA = none := by show exD2 x nA = _; rw [exD2_get, if_neg nAB]
    rw [this]
  unfold sizeS
  rw [this]
theorem ehd (x : Nat) : heldS (exU x (hello ++ you) 5 6) = 9 := by rw [ex_heldU]; rfl
theorem ehv (x : Nat) : heldS (exV x hy7 6) = 7 := by simp [heldS, exV, setF, hy7]
set_option maxHeartbeats 6400000 in
theorem F11 (H : Heap) : Fun Try.prog 11 #[] H (fun r H' => r = .bool true ∧ Ext H H') := by
  refine fun_of mixed (args := []) Try.func11 Try.ntmps11 b11 r11 rfl ?_
  simp only [go_sem, ↓reduceIte, Nat.reduceEqDiff, Nat.reduceLeDiff, Nat.reduceAdd, Nat.reduceMul, Nat.reduceSub, Nat.reduceBEq, Nat.reduceGT, Nat.reduceLT, Int.reduceLE, Int.reduceLT, Int.reduceNeg, reduceCtorEq]
  refine FunI.by (F12 10 H trivial) ?_
  rintro _ H1 ⟨x1, h⟩
  rw [if_neg (by omega)] at h
  obtain ⟨b, F1, rfl, h1, n1⟩ := h
  have N1 : Newly H H1 F1 := ⟨x1, n1⟩
  have ok0 : Ok (freshS 10) := fresh_ok (by omega)
  obtain ⟨_, _, _, _, _, p1⟩ := h1
  simp only [go_sem, ↓reduceIte, Nat.reduceEqDiff, Nat.reduceLeDiff, Nat.reduceAdd, Nat.reduceMul, Nat.reduceSub, Nat.reduceBEq, Nat.reduceGT, Nat.reduceLT, Int.reduceLE, Int.reduceLT, Int.reduceNeg, reduceCtorEq, ptrOf]
  refine FunI.by (F39 p1 ok0 (by decide) nA) ?_
  rintro _ H2 ⟨x, hx, rfl, F2, h2, c2⟩
  have ok1 := create_ok ok0 nA hx
  rw [ex_create] at *
  have N2 := N1.ch c2
  obtain ⟨_, _, _, _, _, p2⟩ := h2
  simp only [go_sem, ↓reduceIte, Nat.reduceEqDiff, Nat.reduceLeDiff, Nat.reduceAdd, Nat.reduceMul, Nat.reduceSub, Nat.reduceBEq, Nat.reduceGT, Nat.reduceLT, Int.reduceLE, Int.reduceLT, Int.reduceNeg, reduceCtorEq, ptrOf]
  refine RunI.by (conv_mark ty34 ty5) ?_
  rintro _ _ ⟨rfl, rfl⟩
  simp only [go_sem, ↓reduceIte, Nat.reduceEqDiff, Nat.reduceLeDiff, Nat.reduceAdd, Nat.reduceMul, Nat.reduceSub, Nat.reduceBEq, Nat.reduceGT, Nat.reduceLT, Int.reduceLE, Int.reduceLT, Int.reduceNeg, reduceCtorEq, ptrOf]
  have lt : ∀ {G : Heap} {c : Array Value} {fr : Nat × Nat}, Ext G (G.push (.cells c 5 fr)) := fun {G c fr} => Ext.push _
  refine FunI.by (F20 (p2.ext lt) ok1 (by show (1 : Int) < 1099511627776; omega) nA (xs := hello) (lit_ints rfl rfl) (by decide)) ?_
  rintro _ H3 ⟨rfl, F3, h3, c3⟩
  have ok2 := append_ok ok1 nA (b := hello) (by simp [Byt, hello])
  simp only [ea1] at *
  have N3 := (N2.ext lt).ch c3
  obtain ⟨_, _, _, _, _, p3⟩ := h3
  simp only [go_sem, ↓reduceIte, Nat.reduceEqDiff, Nat.reduceLeDiff, Nat.reduceAdd, Nat.reduceMul, Nat.reduceSub, Nat.reduceBEq, Nat.reduceGT, Nat.reduceLT, Int.reduceLE, Int.reduceLT, Int.reduceNeg, reduceCtorEq, ptrOf]
  refine FunI.by (F21 p3 ok2 (by show (2 : Int) < 1099511627776; omega) nA) ?_
  rintro _ H4 ⟨rfl, F4, h4, c4⟩
  have ok3 := sync_ok ok2 nA
  simp only [es1] at *
  have N4 := N3.ch c4
  obtain ⟨_, _, _, _, _, p4⟩ := h4
  simp only [go_sem, ↓reduceIte, Nat.reduceEqDiff, Nat.reduceLeDiff, Nat.reduceAdd, Nat.reduceMul, Nat.reduceSub, Nat.reduceBEq, Nat.reduceGT, Nat.reduceLT, Int.reduceLE, Int.reduceLT, Int.reduceNeg, reduceCtorEq, ptrOf]
  refine RunI.by (conv_mark ty34 ty5) ?_
  rintro _ _ ⟨rfl, rfl⟩
  simp only [go_sem, ↓reduceIte, Nat.reduceEqDiff, Nat.reduceLeDiff, Nat.reduceAdd, Nat.reduceMul, Nat.reduceSub, Nat.reduceBEq, Nat.reduceGT, Nat.reduceLT, Int.reduceLE, Int.reduceLT, Int.reduceNeg, reduceCtorEq, ptrOf]
  refine FunI.by (F20 (p4.ext lt) ok3 (by show (3 : Int) < 1099511627776; omega) nA (xs := you) (lit_ints rfl rfl) (by decide)) ?_
  rintro _ H5 ⟨rfl, F5, h5, c5⟩
  have ok4 := append_ok ok3 nA (b := you) (by simp [Byt, you])
  simp only [ea2] at *
  have N5 := (N4.ext lt).ch c5
  obtain ⟨_, _, _, _, _, p5⟩ := h5
  simp only [go_sem, ↓reduceIte, Nat.reduceEqDiff, Nat.reduceLeDiff, Nat.reduceAdd, Nat.reduceMul, Nat.reduceSub, Nat.reduceBEq, Nat.reduceGT, Nat.reduceLT, Int.reduceLE, Int.reduceLT, Int.reduceNeg, reduceCtorEq, ptrOf]
  refine RunI.by (conv_mark ty34 ty5) ?_
  rintro _ _ ⟨rfl, rfl⟩
  simp only [go_sem, ↓reduceIte, Nat.reduceEqDiff, Nat.reduceLeDiff, Nat.reduceAdd, Nat.reduceMul, Nat.reduceSub, Nat.reduceBEq, Nat.reduceGT, Nat.reduceLT, Int.reduceLE, Int.reduceLT, Int.reduceNeg, reduceCtorEq, ptrOf]
  refine FunI.by (F20 (p5.ext lt) ok4 (by show (4 : Int) < 1099511627776; omega) nA (xs := dots) (lit_ints rfl rfl) (by decide)) ?_
  rintro _ H6 ⟨rfl, F6, h6, c6⟩
  simp only [ea3] at *
  have N6 := (N5.ext lt).ch c6
  obtain ⟨_, _, _, _, _, p6⟩ := h6
  simp only [go_sem, ↓reduceIte, Nat.reduceEqDiff, Nat.reduceLeDiff, Nat.reduceAdd, Nat.reduceMul, Nat.reduceSub, Nat.reduceBEq, Nat.reduceGT, Nat.reduceLT, Int.reduceLE, Int.reduceLT, Int.reduceNeg, reduceCtorEq, ptrOf]
  refine FunI.by (F34 p6 ok4 (by show (4 : Int) < 1099511627776; omega)) ?_
  rintro _ H7 ⟨rfl, F7, h7, c7⟩
  have ok5 := syncDir_ok ok4
  simp only [esd] at *
  have N7 := N6.ch c7
  obtain ⟨_, _, _, _, _, p7⟩ := h7
  simp only [go_sem, ↓reduceIte, Nat.reduceEqDiff, Nat.reduceLeDiff, Nat.reduceAdd, Nat.reduceMul, Nat.reduceSub, Nat.reduceBEq, Nat.reduceGT, Nat.reduceLT, Int.reduceLE, Int.reduceLT, Int.reduceNeg, reduceCtorEq, ptrOf]
  refine FunI.by (F45 p7 ok5 (by show (5 : Int) < 1099511627776; omega) nA nB) ?_
  rintro _ H8 ⟨rfl, F8, h8, c8⟩
  have ok6 := rename_ok ok5 nA nB
  simp only [ern] at *
  have N8 := N7.ch c8
  obtain ⟨_, _, _, _, _, p8⟩ := h8
  simp only [go_sem, ↓reduceIte, Nat.reduceEqDiff, Nat.reduceLeDiff, Nat.reduceAdd, Nat.reduceMul, Nat.reduceSub, Nat.reduceBEq, Nat.reduceGT, Nat.reduceLT, Int.reduceLE, Int.reduceLT, Int.reduceNeg, reduceCtorEq, ptrOf]
  refine FunI.by (F13 p8 (by rw [ehd]; decide)) ?_
  rintro _ H9 ⟨rfl, x9⟩
  have N9 := N8.ext x9
  simp only [go_sem, ↓reduceIte, Nat.reduceEqDiff, Nat.reduceLeDiff, Nat.reduceAdd, Nat.reduceMul, Nat.reduceSub, Nat.reduceBEq, Nat.reduceGT, Nat.reduceLT, Int.reduceLE, Int.reduceLT, Int.reduceNeg, reduceCtorEq, ptrOf, ehd]
  have li : ∀ {G : Heap} {c : Array Value} {fr : Nat × Nat}, Ext G (G.push (.cells c 3 fr)) := fun {G c fr} => Ext.push _
  refine FunI.by (F25 ((p8.ext x9).ext li) ok6 (by show (6 : Int) < 1099511627776; omega) 1 (cuts := [2]) (lit_ints rfl rfl) ?_) ?_
  · intro _ g hg hf
    have := (p8.ext x9).lt g hf
    simp [blk] at hg
    omega
  rintro _ H10 ⟨ns, F10, hns, h10, c10⟩
  have ok7 := crash_ok ok6 1 [2] ns
  obtain ⟨rfl, _⟩ := ex_names hns
  simp only [ecr] at *
  have N10 := (N9.ext li).ch c10
  have hp10 := h10
  obtain ⟨_, _, _, _, _, p10⟩ := h10
  simp only [go_sem, ↓reduceIte, Nat.reduceEqDiff, Nat.reduceLeDiff, Nat.reduceAdd, Nat.reduceMul, Nat.reduceSub, Nat.reduceBEq, Nat.reduceGT, Nat.reduceLT, Int.reduceLE, Int.reduceLT, Int.reduceNeg, reduceCtorEq, ptrOf]
  refine FunI.by (F31 p10 ok7 nB 0 99 (by omega)) ?_
  rintro _ H11 ⟨v11, rfl, o11, x11⟩
  rw [erd] at o11 ⊢
  obtain ⟨a11, l11, cc11, rfl⟩ := Sl.form o11.sl
  simp only [go_sem, ↓reduceIte, Nat.reduceEqDiff, Nat.reduceLeDiff, Nat.reduceAdd, Nat.reduceMul, Nat.reduceSub, Nat.reduceBEq, Nat.reduceGT, Nat.reduceLT, Int.reduceLE, Int.reduceLT, Int.reduceNeg, reduceCtorEq, ptrOf]
  refine FunI.by (F32 (p10.ext x11) ok7.nowH nA) ?_
  rintro _ H12 ⟨rfl, x12⟩
  rw [esz]
  have N12 := (N10.ext x11).ext x12
  have p12 := (p10.ext x11).ext x12
  have i12 : Ints H12 5 .u8 (.slice a11 l11 cc11) hy7 := Sl.ext (Sl.ext o11.sl (Upto.refl _ _)) x12
  have w0 : IntKind.i64.wrap (0 + 0) = 0 := by decide
  have hby7 : Byt hy7 := by simp [Byt, hy7]
  simp only [go_sem, ↓reduceIte, Nat.reduceEqDiff, Nat.reduceLeDiff, Nat.reduceAdd, Nat.reduceMul, Nat.reduceSub, Nat.reduceBEq, Nat.reduceGT, Nat.reduceLT, Int.reduceLE, Int.reduceLT, Int.reduceNeg, reduceCtorEq, w0]
  iterate 8
    refine FunI.by (F22 _ _) ?_
    rintro _ _ ⟨rfl, rfl⟩
    simp only [go_sem, ↓reduceIte, Nat.reduceEqDiff, Nat.reduceLeDiff, Nat.reduceAdd, Nat.reduceMul, Nat.reduceSub, Nat.reduceBEq, Nat.reduceGT, Nat.reduceLT, Int.reduceLE, Int.reduceLT, Int.reduceNeg, reduceCtorEq, w0, Int.reduceEq]
  have hb7 : bstr hy7 = ⟨#[104, 101, 108, 108, 111, 32, 121]⟩ := by decide
  refine RunI.by (conv_str i12 ty34 ty9 ty5) ?_
  rintro _ _ ⟨rfl, rfl⟩
  simp only [go_sem, ↓reduceIte, Nat.reduceEqDiff, Nat.reduceLeDiff, Nat.reduceAdd, Nat.reduceMul, Nat.reduceSub, Nat.reduceBEq, Nat.reduceGT, Nat.reduceLT, Int.reduceLE, Int.reduceLT, Int.reduceNeg, reduceCtorEq, hb7, Int.reduceEq]
  refine FunI.by (F22 _ _) ?_
  rintro _ _ ⟨rfl, rfl⟩
  simp only [go_sem, ↓reduceIte, Nat.reduceEqDiff, Nat.reduceLeDiff, Nat.reduceAdd, Nat.reduceMul, Nat.reduceSub, Nat.reduceBEq, Nat.reduceGT, Nat.reduceLT, Int.reduceLE, Int.reduceLT, Int.reduceNeg, reduceCtorEq, Int.reduceEq]
  refine FunI.by (F13 p12 (by rw [ehv]; decide)) ?_
  rintro _ H13 ⟨rfl, x13⟩
  rw [ehv]
  simp only [go_sem, ↓reduceIte, Nat.reduceEqDiff, Nat.reduceLeDiff, Nat.reduceAdd, Nat.reduceMul, Nat.reduceSub, Nat.reduceBEq, Nat.reduceGT, Nat.reduceLT, Int.reduceLE, Int.reduceLT, Int.reduceNeg, reduceCtorEq, Int.reduceEq]
  refine FunI.by (F30 ⟨_, _, _, _, _, p12.ext x13⟩) ?_
  rintro _ _ ⟨rfl, rfl⟩
  have e6 : (exV x hy7 6).ops = 6 := rfl
  simp only [go_sem, ↓reduceIte, Nat.reduceEqDiff, Nat.reduceLeDiff, Nat.reduceAdd, Nat.reduceMul, Nat.reduceSub, Nat.reduceBEq, Nat.reduceGT, Nat.reduceLT, Int.reduceLE, Int.reduceLT, Int.reduceNeg, reduceCtorEq, e6, Int.reduceEq]
  refine FunI.by (F29 ⟨_, _, _, _, _, p12.ext x13⟩) ?_
  rintro _ _ ⟨rfl, rfl⟩
  have e0 : (exV x hy7 6).off = false := rfl
  simp only [go_sem, ↓reduceIte, Nat.reduceEqDiff, Nat.reduceLeDiff, Nat.reduceAdd, Nat.reduceMul, Nat.reduceSub, Nat.reduceBEq, Nat.reduceGT, Nat.reduceLT, Int.reduceLE, Int.reduceLT, Int.reduceNeg, reduceCtorEq, e0]
  exact (N12.ext x13).1
end Go.Proofs.Ytmkheogjnlmkdaa
