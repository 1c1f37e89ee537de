/- The chapter's example, walked. -/
import Derived.Test.YtgpoldjpmcoppaaDoorVPut9
set_option linter.unusedSimpArgs false
set_option linter.unusedVariables false
set_option maxRecDepth 20000
namespace Go.V
open Go
/-- All that there was is as it was, and F is new. -/
def Newly (H H' : Heap) (F : Nat → Prop) : Prop := Ext H H' ∧ ∀ g, F g → H.size ≤ g
theorem Newly.chx {H H1 H2 : Heap} {X F F' : Nat → Prop} (h : Newly H H1 F) (c : ChX X F F' H1 H2) (hX : ∀ g, X g → H.size ≤ g) : Newly H H2 F' := by
  refine ⟨⟨Nat.le_trans h.1.size c.size, fun b hb => ?_⟩, fun g hg => ?_⟩
  · rw [c.get b (Nat.lt_of_lt_of_le hb h.1.size) (fun hf => by have := h.2 b hf; omega) fun hx => by have := hX b hx; omega]
    exact h.1.get b hb
  · rcases c.old g hg with e | e
    · exact h.2 g e
    · exact Nat.le_trans h.1.size e
theorem Newly.ext {H H1 H2 : Heap} {F : Nat → Prop} (h : Newly H H1 F) (x : Ext H1 H2) : Newly H H2 F := ⟨h.1.trans (x.mono h.1.size), h.2⟩
theorem Newly.stg0 {H H1 : Heap} {F : Nat → Prop} (h : Newly H H1 F) (ht : CrcTab H) : ¬ F 0 ∧ CrcTab H1 := by
  refine ⟨fun e => ?_, ht.ext h.1⟩
  have := h.2 0 e
  obtain ⟨t, fr, ht⟩ := ht
  have := (Array.getElem?_eq_some_iff.1 ht).1
  omega
def nmA : Nm := ⟨#[97]⟩
theorem nmA_nm : isNm nmA = true := by decide +kernel
/-- A literal of bytes. -/
theorem lit_ints {H : Heap} {n : Nat} {c : Array Value} {fr : Nat × Nat} {xs : List Int} {k : IntKind} {e : TypeId} (hc : c.toList = xs.map (.int k)) (hn : xs.length = n) : Ints (H.push (.cells c e fr)) e k (.slice (some ⟨H.size, 0, none⟩) n n) xs := by
  refine Sl.of (c := c) (fr := fr) push_new (Nat.le_refl _) (by simp [hn]) fun i hi => ?_
  rw [Nat.zero_add, ← Array.getElem?_toList, hc]
end Go.V
namespace Go.Proofs.YtgpoldjpmcoppaaDoor
open Go Go.V
-- 9: pith/pithlaw9.first
-- 19: pith/pithlaw9.num
-- 10: pith/fs.New
-- 24: pith/files.Begin
-- 25: (*pith/files.Writer).Put
-- 26: (*pith/files.Writer).End
-- 39: pith/files.Open
-- 13: pith/files.Load
-- 14: pith/pithref.SameBytes
-- 15: pith/pithref.SameByteLists
-- 22: []uint8
-- 23: [][]uint8
-- 5: uint8
theorem FsH.lt {H : Heap} {F : Nat → Prop} {b : Nat} {s : St} (h : FsH H F b s) {g : Nat} (hg : F g) : g < H.size := by
  obtain ⟨_, _, _, _, _, hP⟩ := h; exact hP.lt _ hg
theorem Peace.fresh {room : Int} (h : 0 ≤ room ∧ room ≤ 2147483647) : Peace (freshS room) := ⟨fresh_ok h, rfl, rfl⟩
theorem held_fresh (room : Int) : heldS (freshS room) = 0 := rfl
def hi9 : List Int := [104, 105]
def l9 : List (List Int) := [[120], []]
theorem len9 : (rowB (fileR hi9 l9)).length = 55 := by
  simp [fileR, hi9, l9, rowB_cons, rowB, encL_len, be4]
set_option maxHeartbeats 6400000 in
theorem F9 (H : Heap) (ht : CrcTab H) : Fun Tryd.prog 9 #[] H (fun r H' => r = .bool true ∧ Ext H H') := by
  refine fun_of mixed (args := []) Tryd.func9 Tryd.ntmps9 b9 r9 rfl ?_
  simp only [go_sem, ↓reduceIte, Nat.reduceEqDiff, Nat.reduceLeDiff, Nat.reduceAdd, Nat.reduceMul, Nat.reduceSub, Nat.reduceBEq, Nat.reduceGT, Nat.reduceLT, Int.reduceLE, Int.reduceLT, Int.reduceNeg, reduceCtorEq]
  refine FunI.by (F10 1000 H trivial) ?_
  rintro _ H1 ⟨x1, h⟩
  rw [if_neg (by omega)] at h
  obtain ⟨b, F1, rfl, h1, n1⟩ := h
  have N1 : Newly H H1 F1 := ⟨x1, n1⟩
  have p0 : Peace (freshS 1000) := Peace.fresh (by omega)
  simp only [go_sem, ↓reduceIte, Nat.reduceEqDiff, Nat.reduceLeDiff, Nat.reduceAdd, Nat.reduceMul, Nat.reduceSub, Nat.reduceBEq, Nat.reduceGT, Nat.reduceLT, Int.reduceLE, Int.reduceLT, Int.reduceNeg, reduceCtorEq, ptrOf]
  refine RunI.by (conv_mark ty22 ty5) ?_
  rintro _ _ ⟨rfl, rfl⟩
  have lt : ∀ {G : Heap} {c : Array Value} {fr : Nat × Nat}, Ext G (G.push (.cells c 5 fr)) := fun {G c fr} => Ext.push _
  have lit : ∀ {G : Heap} {F : Nat → Prop} {s : St} {c : Array Value} {fr : Nat × Nat} {xs : List Int} {n : Nat}, FsH G F b s → c.toList = xs.map (.int .u8) → xs.length = n → Aw (G.push (.cells c 5 fr)) F (G.push (.cells c 5 fr)).size (.slice (some ⟨G.size, 0, none⟩) n n) xs := fun {G F s c fr xs n} hF hc hn =>
    ⟨lit_ints hc hn, .inr fun g hg => by
      have : G.size = g := by simpa [blk] using hg
      subst this
      exact ⟨fun e => by have := FsH.lt hF e; omega, by simp⟩⟩
  have N2 := N1.ext (lt (c := #[.int .u8 104, .int .u8 105]) (fr := (2, 3)))
  obtain ⟨f2, t2⟩ := N2.stg0 ht
  have w2 := lit (c := #[.int .u8 104, .int .u8 105]) (fr := (2, 3)) (xs := hi9) h1 rfl rfl
  have h2 := h1.ext (lt (c := #[.int .u8 104, .int .u8 105]) (fr := (2, 3)))
  have b9 : Byt hi9 := by simp [Byt, hi9]
  simp only [go_sem, ↓reduceIte, Nat.reduceEqDiff, Nat.reduceLeDiff, Nat.reduceAdd, Nat.reduceMul, Nat.reduceSub, Nat.reduceBEq, Nat.reduceGT, Nat.reduceLT, Int.reduceLE, Int.reduceLT, Int.reduceNeg, reduceCtorEq, ptrOf]
  refine FunI.by (F24' h2 p0.ok (by decide) f2 t2 (n := nmA) w2.1 b9 (by decide) w2.2) ?_
  rintro _ H3 ⟨f, hf, F3, h3, cx3, r3⟩
  obtain ⟨bp1, bp2, bp3, bp4⟩ := begin_peace p0 nmA_nm rfl hf (hd := hi9) (by decide) b9 (by rw [held_fresh]; decide)
  rw [bp1] at h3 r3
  simp only [if_true] at h3 r3
  obtain ⟨w, rfl, hw, hFw, w3⟩ := r3
  have N3 := N2.chx cx3 (fun _ e => e.elim)
  have hwH : H.size ≤ w := Nat.le_trans N2.1.size hw
  have I3 : InS (freshS 1000) nmA f hi9 [] := ⟨bp2, bp4⟩
  clear N1 N2 h1 h2 f2 t2 w2 cx3 bp1 bp2 bp3 bp4
  simp only [go_sem, ↓reduceIte, Nat.reduceEqDiff, Nat.reduceLeDiff, Nat.reduceAdd, Nat.reduceMul, Nat.reduceSub, Nat.reduceBEq, Nat.reduceGT, Nat.reduceLT, Int.reduceLE, Int.reduceLT, Int.reduceNeg, reduceCtorEq, ptrOf]
  refine FunI.by (F19 _ _) ?_
  rintro _ _ ⟨rfl, rfl⟩
  simp only [go_sem, ↓reduceIte, Nat.reduceEqDiff, Nat.reduceLeDiff, Nat.reduceAdd, Nat.reduceMul, Nat.reduceSub, Nat.reduceBEq, Nat.reduceGT, Nat.reduceLT, Int.reduceLE, Int.reduceLT, Int.reduceNeg, reduceCtorEq, ptrOf]
  refine RunI.by (conv_mark ty22 ty5) ?_
  rintro _ _ ⟨rfl, rfl⟩
  have N4 := N3.ext (lt (c := #[.int .u8 120]) (fr := (1, 2)))
  obtain ⟨f4, t4⟩ := N4.stg0 ht
  have u4 := lit (c := #[.int .u8 120]) (fr := (1, 2)) (xs := [120]) h3 rfl rfl
  have h4 := h3.ext (lt (c := #[.int .u8 120]) (fr := (1, 2)))
  have w4 : WrH _ w b _ := (lt (c := #[.int .u8 120]) (fr := (1, 2))).old w3
  have hwlt := (Array.getElem?_eq_some_iff.1 w3).1
  have x120 : Byt [120] := by simp [Byt]
  obtain ⟨pw4, I4⟩ := putW_peace I3 hf (p := [120]) (by decide) x120 (by rw [held_fresh]; decide)
  simp only [go_sem, ↓reduceIte, Nat.reduceEqDiff, Nat.reduceLeDiff, Nat.reduceAdd, Nat.reduceMul, Nat.reduceSub, Nat.reduceBEq, Nat.reduceGT, Nat.reduceLT, Int.reduceLE, Int.reduceLT, Int.reduceNeg, reduceCtorEq, ptrOf]
  refine FunI.by (F25 h4 I3.pc.ok (show (2 : Int) < 1099511627776 by decide) w4 hFw f4 t4 u4.1 x120 (by decide) (.inr fun g hg => ?_) (by decide) (by decide)) ?_
  · have : H3.size = g := by simpa [blk] using hg
    subst this
    exact ⟨fun e => by have := FsH.lt h3 e; omega, by omega⟩
  rintro _ H5 ⟨rfl, F5, h5, w5, cx5⟩
  rw [pw4] at h5 w5 ⊢
  have N5 := N4.chx cx5 (fun g e => by have : g = w := e; omega)
  have hFw5 := cx5.not (by simp; omega) hFw
  obtain ⟨f5, t5⟩ := N5.stg0 ht
  obtain ⟨pw6, I6⟩ := putW_peace I4 hf (p := []) (by decide) (fun _ h => by cases h) (by rw [held_fresh]; decide)
  clear N4 h4 f4 t4 u4 w4 pw4 cx5 N3 h3 w3 hFw hwlt
  simp only [go_sem, ↓reduceIte, Nat.reduceEqDiff, Nat.reduceLeDiff, Nat.reduceAdd, Nat.reduceMul, Nat.reduceSub, Nat.reduceBEq, Nat.reduceGT, Nat.reduceLT, Int.reduceLE, Int.reduceLT, Int.reduceNeg, reduceCtorEq, ptrOf]
  refine FunI.by (F25 (p := []) h5 I4.pc.ok (show (3 : Int) < 1099511627776 by decide) w5 hFw5 f5 t5 Ints.nil (fun _ h => by cases h) (by decide) (.inl rfl) (show 0 ≤ (wrI nmA hi9 ([] ++ [[120]])).size ∧ (wrI nmA hi9 ([] ++ [[120]])).size < 4611686018427387904 by decide) (show 0 ≤ (wrI nmA hi9 ([] ++ [[120]])).data ∧ (wrI nmA hi9 ([] ++ [[120]])).data < 4611686018427387904 by decide)) ?_
  rintro _ H6 ⟨rfl, F6, h6, w6, cx6⟩
  rw [pw6] at h6 w6 ⊢
  have N6 := N5.chx cx6 (fun g e => by have : g = w := e; omega)
  have hFw6 := cx6.not (Array.getElem?_eq_some_iff.1 w5).1 hFw5
  obtain ⟨f6, t6⟩ := N6.stg0 ht
  obtain ⟨en1, en2, en3⟩ := endW_peace I6 hf false (by rw [held_fresh]; decide)
  simp only [go_sem, ↓reduceIte, Nat.reduceEqDiff, Nat.reduceLeDiff, Nat.reduceAdd, Nat.reduceMul, Nat.reduceSub, Nat.reduceBEq, Nat.reduceGT, Nat.reduceLT, Int.reduceLE, Int.reduceLT, Int.reduceNeg, reduceCtorEq, ptrOf]
  refine FunI.by (F26 (sy := false) h6 I6.pc.ok (show (4 : Int) < 549755813888 by decide) w6 hFw6 f6 t6 (show 0 ≤ (wrI nmA hi9 ([] ++ [[120]] ++ [[]])).size ∧ (wrI nmA hi9 ([] ++ [[120]] ++ [[]])).size < 4611686018427387904 by decide) (show 0 ≤ (wrI nmA hi9 ([] ++ [[120]] ++ [[]])).data ∧ (wrI nmA hi9 ([] ++ [[120]] ++ [[]])).data < 4294967296 by decide)) ?_
  rintro _ H7 ⟨rfl, F7, h7, w7, cx7⟩
  rw [en1] at h7 w7 ⊢
  have N7 := N6.chx cx7 (fun g e => by have : g = w := e; omega)
  have hFw7 := cx7.not (Array.getElem?_eq_some_iff.1 w6).1 hFw6
  obtain ⟨f7, t7⟩ := N7.stg0 ht
  have n3 : (doneS (freshS 1000) nmA f hi9 l9 false).now nmA = some f := en3
  have P7 : Peace (doneS (freshS 1000) nmA f hi9 l9 false) := en2
  have h7' : FsH H7 F7 b (doneS (freshS 1000) nmA f hi9 l9 false) := h7
  have w7' : WrH H7 w b { wrI nmA hi9 l9 with size := (rowB (fileR hi9 l9)).length, over := true } := w7
  have e55 : (((rowB (fileR hi9 ([] ++ [[120]] ++ [[]]))).length : Nat) : Int) = 55 := by show (((rowB (fileR hi9 l9)).length : Nat) : Int) = 55; rw [len9]; rfl
  have edat : (doneS (freshS 1000) nmA f hi9 l9 false).dat f = rowB (fileR hi9 l9) := setF_same _ _ _
  have hop := open_file P7 n3 (hd := hi9) (rest := rowB (l9.map (fun p => ((2 : Int), p)) ++ [(3, be4 l9.length)])) (by rw [edat, fileR]; simp [rowB]) (by decide)
  rw [e55]
  clear N5 N6 h5 h6 w5 w6 cx6 cx7 en1 en2 en3 h7 w7 f5 t5 f6 t6 hFw5 hFw6 pw6 I3 I4 I6
  obtain ⟨X, hX⟩ : ∃ X, X = wI (crcW 0#32 (hi9 ++ ([] ++ [[120]] ++ [[]] : List (List Int)).flatten)) := ⟨_, rfl⟩
  rw [← hX]
  clear hX
  simp only [go_sem, ↓reduceIte, Nat.reduceEqDiff, Nat.reduceLeDiff, Nat.reduceAdd, Nat.reduceMul, Nat.reduceSub, Nat.reduceBEq, Nat.reduceGT, Nat.reduceLT, Int.reduceLE, Int.reduceLT, Int.reduceNeg, reduceCtorEq, ptrOf]
  refine FunI.by (F39 (n := nmA) h7' P7.ok t7) ?_
  rintro _ H8 ⟨p, u, rfl, ou, h8, x8, hp⟩
  rw [hop] at hp ou ⊢
  simp only [if_true] at hp
  obtain ⟨rr, rfl, _, _⟩ := hp
  have N8 := N7.ext x8
  have w8 : WrH H8 w b _ := x8.old w7'
  obtain ⟨f8, t8⟩ := N8.stg0 ht
  simp only [go_sem, ↓reduceIte, Nat.reduceEqDiff, Nat.reduceLeDiff, Nat.reduceAdd, Nat.reduceMul, Nat.reduceSub, Nat.reduceBEq, Nat.reduceGT, Nat.reduceLT, Int.reduceLE, Int.reduceLT, Int.reduceNeg, reduceCtorEq, ptrOf]
  refine FunI.by (F19 _ _) ?_
  rintro _ _ ⟨rfl, rfl⟩
  simp only [go_sem, ↓reduceIte, Nat.reduceEqDiff, Nat.reduceLeDiff, Nat.reduceAdd, Nat.reduceMul, Nat.reduceSub, Nat.reduceBEq, Nat.reduceGT, Nat.reduceLT, Int.reduceLE, Int.reduceLT, Int.reduceNeg, reduceCtorEq, ptrOf]
  refine FunI.by (F13 (n := nmA) h8 P7.ok t8) ?_
  rintro _ H9 ⟨hd, l, err, u9, v9, rfl, hL, x9, o9, ol9⟩
  obtain ⟨rfl, rfl, rfl⟩ := loads_file P7 n3 edat (by decide) (by decide) hL
  have N9 := N8.ext x9
  have h9 := h8.ext x9
  have w9 : WrH H9 w b _ := x9.old w8
  simp only [go_sem, ↓reduceIte, Nat.reduceEqDiff, Nat.reduceLeDiff, Nat.reduceAdd, Nat.reduceMul, Nat.reduceSub, Nat.reduceBEq, Nat.reduceGT, Nat.reduceLT, Int.reduceLE, Int.reduceLT, Int.reduceNeg, reduceCtorEq, ptrOf]
  refine RunI.by (conv_mark ty22 ty5) ?_
  rintro _ _ ⟨rfl, rfl⟩
  have N10 := N9.ext (lt (c := #[.int .u8 121]) (fr := (1, 2)))
  obtain ⟨f10, t10⟩ := N10.stg0 ht
  have u10 := lit (c := #[.int .u8 121]) (fr := (1, 2)) (xs := [121]) h9 rfl rfl
  have h10 := h9.ext (lt (c := #[.int .u8 121]) (fr := (1, 2)))
  have w10 : WrH _ w b _ := (lt (c := #[.int .u8 121]) (fr := (1, 2))).old w9
  have o10 := o9.ext (lt (c := #[.int .u8 121]) (fr := (1, 2)))
  have ol10 := ol9.ext (lt (c := #[.int .u8 121]) (fr := (1, 2)))
  obtain ⟨x, hx⟩ : ∃ x, x = { wrI nmA hi9 l9 with size := (rowB (fileR hi9 l9)).length, over := true } := ⟨_, rfl⟩
  have px : putW (doneS (freshS 1000) nmA f hi9 l9 false) x [121] = (doneS (freshS 1000) nmA f hi9 l9 false, x, 91) := by
    unfold putW; rw [if_pos (by rw [hx])]
  rw [← hx] at w10
  have zx : (0 ≤ x.size ∧ x.size < 4611686018427387904) ∧ (0 ≤ x.data ∧ x.data < 4611686018427387904) := by
    rw [hx]
    exact ⟨by show 0 ≤ (((rowB (fileR hi9 l9)).length : Nat) : Int) ∧ (((rowB (fileR hi9 l9)).length : Nat) : Int) < 4611686018427387904; rw [len9]; decide, by show 0 ≤ ((l9.length : Nat) : Int) ∧ ((l9.length : Nat) : Int) < 4611686018427387904; decide⟩
  simp only [go_sem, ↓reduceIte, Nat.reduceEqDiff, Nat.reduceLeDiff, Nat.reduceAdd, Nat.reduceMul, Nat.reduceSub, Nat.reduceBEq, Nat.reduceGT, Nat.reduceLT, Int.reduceLE, Int.reduceLT, Int.reduceNeg, reduceCtorEq, ptrOf]
  refine FunI.by (F25 h10 P7.ok (show (5 : Int) < 1099511627776 by decide) w10 hFw7 f10 t10 u10.1 (by simp [Byt]) (by decide) (.inr fun g hg => ?_) zx.1 zx.2) ?_
  · have : H9.size = g := by simpa [blk] using hg
    subst this
    exact ⟨fun e => by have := FsH.lt h9 e; omega, by have := (Array.getElem?_eq_some_iff.1 w9).1; omega⟩
  rintro _ H11 ⟨rfl, F11, h11, w11, cx11⟩
  rw [px]
  have N11 := N10.chx cx11 (fun g e => by have : g = w := e; omega)
  have hw7 := (Array.getElem?_eq_some_iff.1 w7').1
  have s8 := x8.size
  have kp : ∀ g, H8.size ≤ g → g < (H9.push (.cells #[.int .u8 121] 5 (1, 2))).size → H11[g]? = (H9.push (.cells #[.int .u8 121] 5 (1, 2)))[g]? := fun g g1 g2 => cx11.get g g2 (fun e => by have := FsH.lt h7' e; omega) (by omega)
  have o11 := o10.keep (H' := H11) fun g hg => kp g (o10.blk hg).1 (o10.blk hg).2.1
  have ol11 := ownl_keep (H' := H11) ol10 kp
  obtain ⟨ua, uc, rfl⟩ := Ints.form (xs := hi9) (k := .u8) o11.sl
  obtain ⟨va, vc, rfl⟩ := ol11.lists.form
  simp only [go_sem, ↓reduceIte, Nat.reduceEqDiff, Nat.reduceLeDiff, Nat.reduceAdd, Nat.reduceMul, Nat.reduceSub, Nat.reduceBEq, Nat.reduceGT, Nat.reduceLT, Int.reduceLE, Int.reduceLT, Int.reduceNeg, reduceCtorEq, ptrOf]
  refine RunI.by (conv_mark ty22 ty5) ?_
  rintro _ _ ⟨rfl, rfl⟩
  have N12 := N11.ext (lt (c := #[.int .u8 104, .int .u8 105]) (fr := (2, 3)))
  have o12 := o11.ext (lt (c := #[.int .u8 104, .int .u8 105]) (fr := (2, 3)))
  have ol12 := ol11.ext (lt (c := #[.int .u8 104, .int .u8 105]) (fr := (2, 3)))
  simp only [go_sem, ↓reduceIte, Nat.reduceEqDiff, Nat.reduceLeDiff, Nat.reduceAdd, Nat.reduceMul, Nat.reduceSub, Nat.reduceBEq, Nat.reduceGT, Nat.reduceLT, Int.reduceLE, Int.reduceLT, Int.reduceNeg, reduceCtorEq, ptrOf]
  refine FunI.by (F14 _ _ hi9 hi9 _ o12.sl (lit_ints rfl rfl) b9 b9) ?_
  rintro _ _ ⟨rfl, rfl⟩
  simp only [go_sem, ↓reduceIte, Nat.reduceEqDiff, Nat.reduceLeDiff, Nat.reduceAdd, Nat.reduceMul, Nat.reduceSub, Nat.reduceBEq, Nat.reduceGT, Nat.reduceLT, Int.reduceLE, Int.reduceLT, Int.reduceNeg, reduceCtorEq, ptrOf]
  refine RunI.by (conv_mark ty22 ty5) ?_
  rintro _ _ ⟨rfl, rfl⟩
  have i13 := lit_ints (H := H11.push (.cells #[.int .u8 104, .int .u8 105] 5 (2, 3))) (n := 1) (c := #[.int .u8 120]) (fr := (1, 2)) (xs := [120]) (k := .u8) (e := 5) rfl rfl
  have N13 := N12.ext (lt (c := #[.int .u8 120]) (fr := (1, 2)))
  have ol13 := ol12.ext (lt (c := #[.int .u8 120]) (fr := (1, 2)))
  generalize hK : (H11.push (.cells #[.int .u8 104, .int .u8 105] 5 (2, 3))) = K at *
  have x14 : Ext (K.push (.cells #[.int .u8 120] 5 (1, 2))) ((K.push (.cells #[.int .u8 120] 5 (1, 2))).push (.cells #[.slice (some ⟨K.size, 0, none⟩) 1 1, .slice none 0 0] 22)) := Ext.push _
  have hl : Lists ((K.push (.cells #[.int .u8 120] 5 (1, 2))).push (.cells #[.slice (some ⟨K.size, 0, none⟩) 1 1, .slice none 0 0] 22)) 22 5 (.slice (some ⟨(K.push (.cells #[.int .u8 120] 5 (1, 2))).size, 0, none⟩) 2 2) l9 :=
    ⟨[.slice (some ⟨K.size, 0, none⟩) 1 1, .slice none 0 0], Sl.new (c := #[.slice (some ⟨K.size, 0, none⟩) 1 1, .slice none 0 0]) (n := 2) (sz := 1) rfl, i13.ext x14, Ints.nil, trivial⟩
  have hbl : ∀ y ∈ l9, Byt y := by simp [Byt, l9]
  simp only [go_sem, ↓reduceIte, Nat.reduceEqDiff, Nat.reduceLeDiff, Nat.reduceAdd, Nat.reduceMul, Nat.reduceSub, Nat.reduceBEq, Nat.reduceGT, Nat.reduceLT, Int.reduceLE, Int.reduceLT, Int.reduceNeg, reduceCtorEq, ptrOf]
  refine FunI.by (F15 _ _ l9 l9 _ (ol13.ext x14).lists hl hbl hbl (by decide)) ?_
  rintro _ _ ⟨rfl, rfl⟩
  have N14 := N13.ext x14
  simp only [go_sem, ↓reduceIte, Nat.reduceEqDiff, Nat.reduceLeDiff, Nat.reduceAdd, Nat.reduceMul, Nat.reduceSub, Nat.reduceBEq, Nat.reduceGT, Nat.reduceLT, Int.reduceLE, Int.reduceLT, Int.reduceNeg, reduceCtorEq, ptrOf]
  repeat (refine FunI.by (F19 _ _) ?_; rintro _ _ ⟨rfl, rfl⟩; simp only [go_sem, ↓reduceIte, Nat.reduceEqDiff, Nat.reduceLeDiff, Nat.reduceAdd, Nat.reduceMul, Nat.reduceSub, Nat.reduceBEq, Nat.reduceGT, Nat.reduceLT, Int.reduceLE, Int.reduceLT, Int.reduceNeg, reduceCtorEq, ptrOf])
  exact N14.1
end Go.Proofs.YtgpoldjpmcoppaaDoor
