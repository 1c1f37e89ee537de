/- The law FilesWhole, over heaps. -/
import Derived.Test.YtgpoldjpmcoppaaDoorVWh9
import Derived.Test.YtgpoldjpmcoppaaDoorVPub2
import Derived.Test.YtgpoldjpmcoppaaDoorVCodeL
set_option linter.unusedSimpArgs false
set_option linter.unusedVariables false
set_option maxRecDepth 20000
namespace Go.V
open Go
def oldB : List Int := [111, 108, 100]
def newB : List Int := [110, 101, 119]
end Go.V
namespace Go.Proofs.YtgpoldjpmcoppaaDoor
open Go Go.V
-- 8: pith/pithlaw9.FilesWhole
-- 9: pith/pithlaw9.first
-- 10: pith/fs.New
-- 11: pith/pithlaw9.clipped
-- 30: pith/files.Publish
-- 13: pith/files.Load
-- 36: (*pith/fs.FS).Arm
-- 37: (*pith/fs.FS).Crash
-- 38: pith/pithref.Ints
-- 19: pith/pithlaw9.num
-- 14: pith/pithref.SameBytes
-- 15: pith/pithref.SameByteLists
-- 22: []uint8
-- 23: [][]uint8
-- 5: uint8
-- 3: int
theorem tnF_nm : isNm (tn nmF) = true := by decide +kernel
theorem tnF_ne : tn nmF ≠ nmF := by decide +kernel
theorem oldB_byt : Byt oldB := by simp [Byt, oldB]
theorem newB_byt : Byt newB := by simp [Byt, newB]
theorem no_load {s : St} (h : Peace s) {n : Nm} (hn : isNm n = true) (hx : s.now n = none) {hd : List Int} {l : List (List Int)} {e : Int} (hL : Loads s n hd l e) : hd = [] ∧ l = [] ∧ e = 82 := by
  have hf : findS s n = (none, 82) := by unfold findS; rw [begin_calm h.on hn, hx]; simp
  have hr : ∀ a k, readS s n a k = ([], 82) := fun a k => by unfold readS; rw [hf]
  have hnx : nextF s (newR n) = (newR n, 0, [], 82) := by
    unfold nextF
    simp only [show (newR n).name = n from rfl, hr]
    rw [if_pos (by decide)]
  have ho : openF s n = (newR n, [], 82) := by
    unfold openF
    simp only [hnx]
    rw [if_pos (by decide)]
  unfold Loads at hL
  rw [ho, if_pos (show (82 : Int) ≠ 0 by decide)] at hL
  exact hL
/-- The file system ahead of the second Publish. -/
structure Was (s : St) (th : Bool) (a : List (List Int)) : Prop where
  pc : Peace s
  pend : s.pend = []
  last : s.last = s.now
  tmp : s.now (tn nmF) = none
  room : s.room = 1048576
  sum : heldS s ≤ 43000
  ops : s.ops ≤ 200
  cas : (th = false ∧ s.now nmF = none) ∨ (th = true ∧ ∃ y, s.now nmF = some y ∧ s.dat y = rowB (fileR oldB a) ∧ s.syn y = (s.dat y).length)
/-- The same, whether something is armed or not. -/
structure Was2 (s : St) (th : Bool) (a : List (List Int)) : Prop where
  ok : Ok s
  on : s.off = false
  pend : s.pend = []
  last : s.last = s.now
  tmp : s.now (tn nmF) = none
  room : s.room = 1048576
  sum : heldS s ≤ 43000
  ops : s.ops ≤ 200
  cas : (th = false ∧ s.now nmF = none) ∨ (th = true ∧ ∃ y, s.now nmF = some y ∧ s.dat y = rowB (fileR oldB a) ∧ s.syn y = (s.dat y).length)
theorem Was.two {s : St} {th : Bool} {a : List (List Int)} (h : Was s th a) : Was2 s th a := ⟨h.pc.ok, h.pc.on, h.pend, h.last, h.tmp, h.room, h.sum, h.ops, h.cas⟩
theorem Was.arm {s : St} {th : Bool} {a : List (List Int)} (h : Was s th a) {k : Int} (h0 : 0 < k) (h1 : k < 200) : Was2 (armS s k).1 th a := by
  have ok := arm_ok h.pc.ok (k := k) (by omega)
  have e : (armS s k).1 = { s with fuse := k } := by
    unfold armS
    rw [if_neg (by omega), if_neg (by rw [h.pc.on]; decide)]
  rw [e] at ok ⊢
  exact ⟨ok, h.pc.on, h.pend, h.last, h.tmp, h.room, h.sum, h.ops, h.cas⟩
theorem Was.first {f : Nat} {a : List (List Int)} {s' : St} (h : Fin (freshS 1048576) s' (tn nmF) nmF f (rowB (fileR oldB a))) (hl : (rowB (fileR oldB a)).length ≤ 42492) (ho : s'.ops ≤ 200) : Was s' true a := by
  refine ⟨⟨h.ok, h.goes.on, h.goes.arm rfl⟩, h.pend, h.last, ?_, h.room, ?_, ho, .inr ⟨rfl, f, ?_, ?_, ?_⟩⟩
  · rw [h.now]
    unfold moveD freshS
    simp [tnF_ne, isNm_ne tnF_nm]
  · have := h.sum
    rw [held_fresh] at this
    omega
  · rw [h.now]; exact move_same (isNm_ne nmF_nm)
  · rw [h.dat, setF_same]
  · rw [h.syn, h.dat, setF_same, setF_same]
theorem out_ok {s s' : St} {t n : Nm} {f : Nat} {R : List Int} {e : Int} (h : Out9 s s' t n f R e) : Ok s' ∧ (e = 0 ∨ (0 < s.fuse ∧ e = 81)) := by
  cases h with
  | fin h => exact ⟨h.ok, .inl rfl⟩
  | wip hp h => exact ⟨h.ok, .inr ⟨hp, rfl⟩⟩
  | ren hp h => exact ⟨h.ok, .inr ⟨hp, rfl⟩⟩
theorem whole_cas {s2 sc : St} {th : Bool} {a q : List (List Int)} {f : Nat} {e : Int} (W2 : Was2 s2 th a)
    (cp : (sc.now nmF = some f ∧ sc.dat f = rowB (fileR newB q) ∧ (e = 0 ∨ e = 81)) ∨ (e = 81 ∧ sc.now nmF = s2.now nmF ∧ ∀ g ∈ s2.held, s2.syn g = (s2.dat g).length → sc.dat g = s2.dat g))
    (pc : Peace sc) (ca : ∀ p ∈ a, p.length ≤ 1024) (cb : ∀ p ∈ q, p.length ≤ 1024) {hd : List Int} {l : List (List Int)} {e9 : Int} (hL : Loads sc nmF hd l e9) :
    (hd = newB ∧ l = q ∧ e9 = 0) ∨ (e = 81 ∧ th = true ∧ hd = oldB ∧ l = a ∧ e9 = 0) ∨ (e = 81 ∧ th = false ∧ hd = [] ∧ l = [] ∧ e9 = 82) := by
  rcases cp with ⟨k1, k2, _⟩ | ⟨ke, k1, k2⟩
  · exact .inl (loads_file pc k1 k2 (by decide) cb hL)
  · rcases W2.cas with ⟨hth, hno⟩ | ⟨hth, y, y1, y2, y3⟩
    · exact .inr (.inr ⟨ke, hth, no_load pc nmF_nm (k1.trans hno) hL⟩)
    · exact .inr (.inl ⟨ke, hth, loads_file pc (k1.trans y1) ((k2 y (W2.ok.nowH _ _ y1) y3).trans y2) (by decide) ca hL⟩)
set_option maxHeartbeats 12800000 in
theorem F8 (u : Value) (l1 : List (List Int)) (v : Value) (l2 : List (List Int)) (th : Bool) (n dir : Int) (cv : Value) (cuts : List Int) (H : Heap) (hu : Lists H 22 5 u l1) (hbu : ∀ x ∈ l1, Byt x) (hv : Lists H 22 5 v l2) (hbl : ∀ x ∈ l2, Byt x)
    (hn : -9223372036854775808 ≤ n ∧ n < 9223372036854775808) (hdir : -9223372036854775808 ≤ dir ∧ dir < 9223372036854775808) (hcv : Ints H 3 .i64 cv cuts) (ht : CrcTab H) (hl1 : l1.length ≤ 1048576) (hl2 : l2.length ≤ 1048576) (hl3 : cuts.length ≤ 1048576) :
    Fun Tryd.prog 8 #[u, v, .bool th, .int .i64 n, .int .i64 dir, cv] H (fun r H' => r = .bool true ∧ Ext H H') := by
  obtain ⟨ua, uc, rfl⟩ := hu.form
  obtain ⟨va, vc, rfl⟩ := hv.form
  obtain ⟨ca, cc, rfl⟩ := hcv.form
  refine fun_of mixed (args := [_, _, _, _, _, _]) Tryd.func8 Tryd.ntmps8 b8 r8 rfl ?_
  simp only [go_sem, ↓reduceIte, Nat.reduceEqDiff, Nat.reduceLeDiff, Nat.reduceAdd, Nat.reduceMul, Nat.reduceSub, Nat.reduceBEq, Nat.reduceGT, Nat.reduceLT, Int.reduceLE, Int.reduceLT, Int.reduceNeg, reduceCtorEq]
  refine FunI.by (F9 H ht) ?_
  rintro _ H1 ⟨rfl, x1⟩
  simp only [go_sem, ↓reduceIte, Nat.reduceEqDiff, Nat.reduceLeDiff, Nat.reduceAdd, Nat.reduceMul, Nat.reduceSub, Nat.reduceBEq, Nat.reduceGT, Nat.reduceLT, Int.reduceLE, Int.reduceLT, Int.reduceNeg, reduceCtorEq]
  refine FunI.by (F10 1048576 H1 trivial) ?_
  rintro _ H2 ⟨x2, h⟩
  rw [if_neg (by omega)] at h
  obtain ⟨b, F, rfl, h2, n2⟩ := h
  have x12 : Ext H H2 := Upto.ext x1 x1.size x2
  have hs1 := x1.size
  have nF : ∀ g, F g → H.size ≤ g := fun g hg => Nat.le_trans hs1 (n2 g hg)
  have lF : ∀ g, F g → g < H2.size := fun g hg => FsH.lt h2 hg
  simp only [go_sem, ↓reduceIte, Nat.reduceEqDiff, Nat.reduceLeDiff, Nat.reduceAdd, Nat.reduceMul, Nat.reduceSub, Nat.reduceBEq, Nat.reduceGT, Nat.reduceLT, Int.reduceLE, Int.reduceLT, Int.reduceNeg, reduceCtorEq, ptrOf]
  refine FunI.by (F11 _ l1 x12 hu) ?_
  rintro wu H3 ⟨vsa, owa, haa, x3⟩
  have x13 : Ext H H3 := Upto.ext x12 x12.size x3
  have hs3 := x3.size
  simp only [go_sem, ↓reduceIte, Nat.reduceEqDiff, Nat.reduceLeDiff, Nat.reduceAdd, Nat.reduceMul, Nat.reduceSub, Nat.reduceBEq, Nat.reduceGT, Nat.reduceLT, Int.reduceLE, Int.reduceLT, Int.reduceNeg, reduceCtorEq, ptrOf]
  refine FunI.by (F11 _ l2 x13 hv) ?_
  rintro wv H4 ⟨vsb, owb, hab, x4⟩
  have x14 : Ext H H4 := Upto.ext x13 x13.size x4
  have hs4 := x4.size
  have A4 := awl_of (F := F) (owa.ext x4) haa x14 nF (fun g hg => by have := lF g hg; omega)
  have B4 := awl_of (F := F) owb hab x14 nF (fun g hg => by have := lF g hg; omega)
  obtain ⟨ca1, ca2, ca3⟩ := clipL_facts hbu
  obtain ⟨cb1, cb2, cb3⟩ := clipL_facts hbl
  obtain ⟨a, ea⟩ : ∃ z, z = clipL l1 := ⟨_, rfl⟩
  obtain ⟨q, eq⟩ : ∃ z, z = clipL l2 := ⟨_, rfl⟩
  rw [← ea] at A4 ca1 ca2 ca3
  rw [← eq] at B4 cb1 cb2 cb3
  obtain ⟨wua, wuc, rfl⟩ := A4.form
  obtain ⟨wva, wvc, rfl⟩ := B4.form
  have p0 : Peace (freshS 1048576) := Peace.fresh (by omega)
  have N4 : Newly H H4 F := ⟨x14, nF⟩
  have h4 := (h2.ext x3).ext x4
  have lt : ∀ {G : Heap} {c : Array Value} {fr : Nat × Nat}, Ext G (G.push (.cells c 5 fr)) := fun {G c fr} => Ext.push _
  have lit : ∀ {G : Heap} {F : Nat → Prop} {s : St} {c : Array Value} {fr : Nat × Nat} {xs : List Int} {n : Nat}, FsH G F b s → c.toList = xs.map (.int .u8) → xs.length = n → Aw (G.push (.cells c 5 fr)) F (G.push (.cells c 5 fr)).size (.slice (some ⟨G.size, 0, none⟩) n n) xs := fun {G F s c fr xs n} hF hc hn =>
    ⟨lit_ints hc hn, .inr fun g hg => by
      have : G.size = g := by simpa [blk] using hg
      subst this
      exact ⟨fun e => by have := FsH.lt hF e; omega, by simp⟩⟩
  have flo := file_len (hd := oldB) (l := a) (by decide) ca2
  have fln := file_len (hd := newB) (l := q) (by decide) cb2
  clear owa owb haa hab x3 x4 x13 x12 x2 h2
  have W0 : Was (freshS 1048576) false a := ⟨p0, rfl, rfl, rfl, rfl, by rw [held_fresh]; decide, by decide, .inl ⟨rfl, rfl⟩⟩
  cases th
  case' true =>
    simp only [go_sem, ↓reduceIte, Nat.reduceEqDiff, Nat.reduceLeDiff, Nat.reduceAdd, Nat.reduceMul, Nat.reduceSub, Nat.reduceBEq, Nat.reduceGT, Nat.reduceLT, Int.reduceLE, Int.reduceLT, Int.reduceNeg, reduceCtorEq, ptrOf]
    refine RunI.by (conv_mark ty22 ty5) ?_
    rintro _ _ ⟨rfl, rfl⟩
    have u5 := lit (c := #[.int .u8 111, .int .u8 108, .int .u8 100]) (fr := (3, 4)) (xs := oldB) h4 rfl rfl
    have x45 := lt (G := H4) (c := #[.int .u8 111, .int .u8 108, .int .u8 100]) (fr := (3, 4))
    have s45 : (H4.push (.cells #[.int .u8 111, .int .u8 108, .int .u8 100] 5 (3, 4))).size = H4.size + 1 := by simp
    obtain ⟨H5, hH5⟩ : ∃ H5, H5 = H4.push (.cells #[.int .u8 111, .int .u8 108, .int .u8 100] 5 (3, 4)) := ⟨_, rfl⟩
    rw [← hH5] at u5 x45 s45
    have N5 := N4.ext x45
    have h5 := h4.ext x45
    have A5 := A4.keep (X := fun _ => False) x45.chx (fun _ e => e.elim) (Nat.le_refl _)
    have B5 := B4.keep (X := fun _ => False) x45.chx (fun _ e => e.elim) (Nat.le_refl _)
    obtain ⟨f5, t5⟩ := N5.stg0 ht
    simp only [go_sem, ↓reduceIte, Nat.reduceEqDiff, Nat.reduceLeDiff, Nat.reduceAdd, Nat.reduceMul, Nat.reduceSub, Nat.reduceBEq, Nat.reduceGT, Nat.reduceLT, Int.reduceLE, Int.reduceLT, Int.reduceNeg, reduceCtorEq, ptrOf]
    rw [← hH5]
    refine FunI.by (F30 (n := nmF) h5 p0.ok (by show (0 : Int) < _; decide) f5 t5 u5 (A5.up (by omega)) oldB_byt ca3 (by decide) (fun x hx => by have := ca2 x hx; omega) (by omega) (by decide)) ?_
    rintro _ H6 ⟨f, F6, hf, rfl, h6, cx6⟩
    have po := pub_power p0.ok p0.on nmF_nm tnF_nm rfl hf (hd := oldB) (l := a) (by decide) oldB_byt (fun p hp => ⟨ca2 p hp, ca3 p hp⟩) (by rw [held_fresh]; show _ ≤ (1048576 : Int); omega)
    have pops := pub_ops (freshS 1048576) nmF oldB a f
    have e0 : (freshS 1048576).ops = 0 := rfl
    have N1 := N5.chx cx6 (fun _ e => e.elim)
    have AA := A5.keep cx6 (fun _ e => e.elim) (by omega)
    have BB := B5.keep cx6 (fun _ e => e.elim) (by omega)
    have hsz : H4.size ≤ H6.size := by have := cx6.size; omega
    obtain ⟨r, hr⟩ : ∃ r, r = pubS (freshS 1048576) nmF oldB a f := ⟨_, rfl⟩
    rw [← hr] at po h6 pops ⊢
    obtain ⟨s1, e1⟩ := r
    have he : e1 = 0 := by
      rcases (out_ok po).2 with e | ⟨e, _⟩
      · exact e
      · exact absurd e (by decide)
    subst he
    have W1 : Was s1 true a := by
      cases po with
      | fin h => exact Was.first h (by omega) (by simp only at pops; omega)
    have hfs : FsH H6 F6 b s1 := h6
    simp only [go_sem, ↓reduceIte, Nat.reduceEqDiff, Nat.reduceLeDiff, Nat.reduceAdd, Nat.reduceMul, Nat.reduceSub, Nat.reduceBEq, Nat.reduceGT, Nat.reduceLT, Int.reduceLE, Int.reduceLT, Int.reduceNeg, reduceCtorEq, ptrOf]
    refine FunI.by (F19 _ _) ?_
    rintro _ _ ⟨rfl, rfl⟩
  case' false =>
    have hfs := h4
    have W1 := W0
    have N1 := N4
    have AA := A4
    have BB := B4
    have hsz : H4.size ≤ H4.size := Nat.le_refl _
    obtain ⟨s1, hs1'⟩ : ∃ s1, s1 = freshS 1048576 := ⟨_, rfl⟩
    rw [← hs1'] at hfs W1
  all_goals
    rcases (by omega : (0 < n ∧ n < 200) ∨ ¬ 0 < n ∨ (0 < n ∧ ¬ n < 200)) with ⟨c1, c2⟩ | c1 | ⟨c1, c2⟩
  all_goals first
    | (have c2' : n < 200 := c2
       simp only [go_sem, ↓reduceIte, Nat.reduceEqDiff, Nat.reduceLeDiff, Nat.reduceAdd, Nat.reduceMul, Nat.reduceSub, Nat.reduceBEq, Nat.reduceGT, Nat.reduceLT, Int.reduceLE, Int.reduceLT, Int.reduceNeg, reduceCtorEq, ptrOf, c1, c2]
       refine FunI.by (F36 hfs n) ?_
       rintro _ HA ⟨rfl, hf2, chA⟩
       have W2 := W1.arm c1 c2
       have N2 := N1.chx (X := fun _ => False) chA.chx (fun _ e => e.elim)
       have AA2 := AA.keep (X := fun _ => False) chA.chx (fun _ e => e.elim) hsz
       have BB2 := BB.keep (X := fun _ => False) chA.chx (fun _ e => e.elim) hsz
       have hsz2 := Nat.le_trans hsz chA.size
       obtain ⟨s2, hs2'⟩ : ∃ s2, s2 = (armS s1 n).1 := ⟨_, rfl⟩
       rw [← hs2'] at hf2 W2
       simp only [go_sem, ↓reduceIte, Nat.reduceEqDiff, Nat.reduceLeDiff, Nat.reduceAdd, Nat.reduceMul, Nat.reduceSub, Nat.reduceBEq, Nat.reduceGT, Nat.reduceLT, Int.reduceLE, Int.reduceLT, Int.reduceNeg, reduceCtorEq, ptrOf])
    | (have W2 := W1.two
       have hf2 := hfs
       have N2 := N1
       have AA2 := AA
       have BB2 := BB
       have hsz2 := hsz
       obtain ⟨s2, hs2'⟩ : ∃ s2, s2 = s1 := ⟨_, rfl⟩
       rw [← hs2'] at hf2 W2
       simp only [go_sem, ↓reduceIte, Nat.reduceEqDiff, Nat.reduceLeDiff, Nat.reduceAdd, Nat.reduceMul, Nat.reduceSub, Nat.reduceBEq, Nat.reduceGT, Nat.reduceLT, Int.reduceLE, Int.reduceLT, Int.reduceNeg, reduceCtorEq, ptrOf, c1, c2])
    | (have W2 := W1.two
       have hf2 := hfs
       have N2 := N1
       have AA2 := AA
       have BB2 := BB
       have hsz2 := hsz
       obtain ⟨s2, hs2'⟩ : ∃ s2, s2 = s1 := ⟨_, rfl⟩
       rw [← hs2'] at hf2 W2
       simp only [go_sem, ↓reduceIte, Nat.reduceEqDiff, Nat.reduceLeDiff, Nat.reduceAdd, Nat.reduceMul, Nat.reduceSub, Nat.reduceBEq, Nat.reduceGT, Nat.reduceLT, Int.reduceLE, Int.reduceLT, Int.reduceNeg, reduceCtorEq, ptrOf, c1])
  all_goals
    refine RunI.by (conv_mark ty22 ty5) ?_
    rintro _ _ ⟨rfl, rfl⟩
    have u5 := lit (c := #[.int .u8 110, .int .u8 101, .int .u8 119]) (fr := (3, 4)) (xs := newB) hf2 rfl rfl
    have hf3 := hf2.ext (lt (c := #[.int .u8 110, .int .u8 101, .int .u8 119]) (fr := (3, 4)))
    have N3 := N2.ext (lt (c := #[.int .u8 110, .int .u8 101, .int .u8 119]) (fr := (3, 4)))
    have AA3 := AA2.keep (X := fun _ => False) (lt (c := #[.int .u8 110, .int .u8 101, .int .u8 119]) (fr := (3, 4))).chx (fun _ e => e.elim) hsz2
    have BB3 := BB2.keep (X := fun _ => False) (lt (c := #[.int .u8 110, .int .u8 101, .int .u8 119]) (fr := (3, 4))).chx (fun _ e => e.elim) hsz2
    obtain ⟨f3, t3⟩ := N3.stg0 ht
    have W2o := W2.ops
    have W2r := W2.room
    have W2s := W2.sum
    simp only [go_sem, ↓reduceIte, Nat.reduceEqDiff, Nat.reduceLeDiff, Nat.reduceAdd, Nat.reduceMul, Nat.reduceSub, Nat.reduceBEq, Nat.reduceGT, Nat.reduceLT, Int.reduceLE, Int.reduceLT, Int.reduceNeg, reduceCtorEq, ptrOf]
    refine FunI.by (F30 (n := nmF) hf3 W2.ok (by omega) f3 t3 u5 (BB3.up (by rw [Array.size_push]; omega)) newB_byt cb3 (by decide) (fun x hx => by have := cb2 x hx; omega) (by omega) (by decide)) ?_
    rintro _ HP ⟨f, F6, hf, rfl, h6, cx6⟩
    have po := pub_power W2.ok W2.on nmF_nm tnF_nm W2.tmp hf (hd := newB) (l := q) (by decide) newB_byt (fun p hp => ⟨cb2 p hp, cb3 p hp⟩) (by omega)
    have oo := out_ok po
    have pops := pub_ops s2 nmF newB q f
    have N6 := N3.chx cx6 (fun _ e => e.elim)
    have AA6 := AA3.keep cx6 (fun _ e => e.elim) (by rw [Array.size_push]; omega)
    have BB6 := BB3.keep cx6 (fun _ e => e.elim) (by rw [Array.size_push]; omega)
    have hsz6 : H4.size ≤ HP.size := by have := cx6.size; rw [Array.size_push] at this; omega
    obtain ⟨r3, hr3⟩ : ∃ r, r = pubS s2 nmF newB q f := ⟨_, rfl⟩
    rw [← hr3] at po oo h6 pops ⊢
    obtain ⟨s3, e3⟩ := r3
    simp only at po oo h6 pops
    clear hr3
    have he : e3 = 0 ∨ e3 = 81 := oo.2.imp id fun e => e.2
    rcases he with he | he
  all_goals
    subst he
    simp only [go_sem, ↓reduceIte, Nat.reduceEqDiff, Nat.reduceLeDiff, Nat.reduceAdd, Nat.reduceMul, Nat.reduceSub, Nat.reduceBEq, Nat.reduceGT, Nat.reduceLT, Int.reduceLE, Int.reduceLT, Int.reduceNeg, reduceCtorEq, ptrOf, Int.reduceEq]
    repeat (refine FunI.by (F19 _ _) ?_; rintro _ _ ⟨rfl, rfl⟩; simp only [go_sem, ↓reduceIte, Nat.reduceEqDiff, Nat.reduceLeDiff, Nat.reduceAdd, Nat.reduceMul, Nat.reduceSub, Nat.reduceBEq, Nat.reduceGT, Nat.reduceLT, Int.reduceLE, Int.reduceLT, Int.reduceNeg, reduceCtorEq, ptrOf, Int.reduceEq])
    refine FunI.by (F38 _ cuts _ (hcv.ext N6.1) (by omega)) ?_
    rintro w7 H7 ⟨o7, x7⟩
    have l6 : ∀ g, F6 g → g < HP.size := fun g hg => FsH.lt h6 hg
    obtain ⟨_, _, _, _, _, hP7⟩ := h6.ext x7
    simp only [go_sem, ↓reduceIte, Nat.reduceEqDiff, Nat.reduceLeDiff, Nat.reduceAdd, Nat.reduceMul, Nat.reduceSub, Nat.reduceBEq, Nat.reduceGT, Nat.reduceLT, Int.reduceLE, Int.reduceLT, Int.reduceNeg, reduceCtorEq, ptrOf]
    refine FunI.by (F37 hP7 oo.1 (by omega) dir (cuts := cuts) o7.sl (fun _ g hg e => by have := (o7.blk hg).1; have := l6 g e; omega)) ?_
    rintro w8 H8 ⟨ns, F8, hns, h8, ch8⟩
    have cp := crash_pub W2.ok W2.pend W2.last hf nmF_nm tnF_ne po oo.1 dir cuts ns
    have pc8 := (crash_peace oo.1 dir cuts ns).1
    have ch8' : ChX (fun _ => False) F6 F8 H7 H8 := ch8.chx
    have N8 := (N6.ext x7).chx ch8' (fun _ e => e.elim)
    have AA8 := (AA6.keep (X := fun _ => False) x7.chx (fun _ e => e.elim) hsz6).keep ch8' (fun _ e => e.elim) (by have := x7.size; omega)
    have BB8 := (BB6.keep (X := fun _ => False) x7.chx (fun _ e => e.elim) hsz6).keep ch8' (fun _ e => e.elim) (by have := x7.size; omega)
    have hsz8 : H4.size ≤ H8.size := by have := x7.size; have := ch8.size; omega
    obtain ⟨f8, t8⟩ := N8.stg0 ht
    simp only [go_sem, ↓reduceIte, Nat.reduceEqDiff, Nat.reduceLeDiff, Nat.reduceAdd, Nat.reduceMul, Nat.reduceSub, Nat.reduceBEq, Nat.reduceGT, Nat.reduceLT, Int.reduceLE, Int.reduceLT, Int.reduceNeg, reduceCtorEq, ptrOf]
    refine FunI.by (F13 (n := nmF) h8 pc8.ok t8) ?_
    rintro _ H9 ⟨hd9, l9, e9, u9, v9, rfl, hL9, x9, o9, ol9⟩
    have N9 := N8.ext x9
    have AA9 := AA8.keep (X := fun _ => False) x9.chx (fun _ e => e.elim) hsz8
    have BB9 := BB8.keep (X := fun _ => False) x9.chx (fun _ e => e.elim) hsz8
    have hsz9 : H4.size ≤ H9.size := by have := x9.size; omega
    have cas := whole_cas W2 cp pc8 ca2 cb2 hL9
    have hbh : Byt hd9 := by rcases cas with ⟨e, _⟩ | ⟨_, _, e, _⟩ | ⟨_, _, e, _⟩ <;> rw [e] <;> simp [Byt, newB, oldB]
    have hbl9 : ∀ x ∈ l9, Byt x := by
      rcases cas with ⟨_, e, _⟩ | ⟨_, _, _, e, _⟩ | ⟨_, _, _, e, _⟩ <;> rw [e]
      · exact cb3
      · exact ca3
      · intro _ h; cases h
    have hll9 : l9.length ≤ 140737488350000 := by
      rcases cas with ⟨_, e, _⟩ | ⟨_, _, _, e, _⟩ | ⟨_, _, _, e, _⟩ <;> rw [e]
      · omega
      · omega
      · decide
    obtain ⟨ua9, uc9, rfl⟩ := Ints.form (xs := hd9) (k := .u8) o9.sl
    obtain ⟨va9, vc9, rfl⟩ := ol9.lists.form
    simp only [go_sem, ↓reduceIte, Nat.reduceEqDiff, Nat.reduceLeDiff, Nat.reduceAdd, Nat.reduceMul, Nat.reduceSub, Nat.reduceBEq, Nat.reduceGT, Nat.reduceLT, Int.reduceLE, Int.reduceLT, Int.reduceNeg, reduceCtorEq, ptrOf]
    refine RunI.by (conv_mark ty22 ty5) ?_
    rintro _ _ ⟨rfl, rfl⟩
    have xA := lt (G := H9) (c := #[.int .u8 111, .int .u8 108, .int .u8 100]) (fr := (3, 4))
    have iA := lit_ints (H := H9) (n := 3) (c := #[.int .u8 111, .int .u8 108, .int .u8 100]) (fr := (3, 4)) (xs := oldB) (k := .u8) (e := 5) rfl rfl
    obtain ⟨HA, hHA⟩ : ∃ HA, HA = H9.push (.cells #[.int .u8 111, .int .u8 108, .int .u8 100] 5 (3, 4)) := ⟨_, rfl⟩
    rw [← hHA] at xA iA
    have NA := N9.ext xA
    have oA := o9.ext xA
    have olA := ol9.ext xA
    have AAA := AA9.keep (X := fun _ => False) xA.chx (fun _ e => e.elim) hsz9
    have BBA := BB9.keep (X := fun _ => False) xA.chx (fun _ e => e.elim) hsz9
    have hszA := Nat.le_trans hsz9 xA.size
    simp only [go_sem, ↓reduceIte, Nat.reduceEqDiff, Nat.reduceLeDiff, Nat.reduceAdd, Nat.reduceMul, Nat.reduceSub, Nat.reduceBEq, Nat.reduceGT, Nat.reduceLT, Int.reduceLE, Int.reduceLT, Int.reduceNeg, reduceCtorEq, ptrOf]
    rw [← hHA]
    refine FunI.by (F14 _ _ hd9 oldB HA oA.sl iA hbh oldB_byt) ?_
    rintro _ _ ⟨rfl, rfl⟩
    have xB := lt (G := HA) (c := #[.int .u8 110, .int .u8 101, .int .u8 119]) (fr := (3, 4))
    have iB := lit_ints (H := HA) (n := 3) (c := #[.int .u8 110, .int .u8 101, .int .u8 119]) (fr := (3, 4)) (xs := newB) (k := .u8) (e := 5) rfl rfl
    obtain ⟨HB, hHB⟩ : ∃ HB, HB = HA.push (.cells #[.int .u8 110, .int .u8 101, .int .u8 119] 5 (3, 4)) := ⟨_, rfl⟩
    rw [← hHB] at xB iB
    have NB := NA.ext xB
    have oB := oA.ext xB
    have olB := olA.ext xB
    have BBB := BBA.keep (X := fun _ => False) xB.chx (fun _ e => e.elim) hszA
    have fin1 : (decide (newB = oldB)) = false := by decide
    have fin2 : (decide (oldB = newB)) = false := by decide
    have fin3 : (decide (([] : List Int) = oldB)) = false := by decide
    have fin4 : (decide (([] : List Int) = newB)) = false := by decide
    have fin5 : (decide (oldB = oldB)) = true := by decide
    have fin6 : (decide (newB = newB)) = true := by decide
    rcases cas with ⟨g1, g2, g3⟩ | ⟨ke, kt, g1, g2, g3⟩ | ⟨ke, kt, g1, g2, g3⟩
    · subst g1 g3
      simp only [go_sem, ↓reduceIte, Nat.reduceEqDiff, Nat.reduceLeDiff, Nat.reduceAdd, Nat.reduceMul, Nat.reduceSub, Nat.reduceBEq, Nat.reduceGT, Nat.reduceLT, Int.reduceLE, Int.reduceLT, Int.reduceNeg, reduceCtorEq, ptrOf, fin1]
      refine RunI.by (conv_mark ty22 ty5) ?_
      rintro _ _ ⟨rfl, rfl⟩
      simp only [go_sem, ↓reduceIte, Nat.reduceEqDiff, Nat.reduceLeDiff, Nat.reduceAdd, Nat.reduceMul, Nat.reduceSub, Nat.reduceBEq, Nat.reduceGT, Nat.reduceLT, Int.reduceLE, Int.reduceLT, Int.reduceNeg, reduceCtorEq, ptrOf]
      rw [← hHB]
      refine FunI.by (F14 _ _ newB newB HB oB.sl iB newB_byt newB_byt) ?_
      rintro _ _ ⟨rfl, rfl⟩
      simp only [go_sem, ↓reduceIte, Nat.reduceEqDiff, Nat.reduceLeDiff, Nat.reduceAdd, Nat.reduceMul, Nat.reduceSub, Nat.reduceBEq, Nat.reduceGT, Nat.reduceLT, Int.reduceLE, Int.reduceLT, Int.reduceNeg, reduceCtorEq, ptrOf, fin6]
      refine FunI.by (F15 _ _ l9 l9 HB olB.lists (by rw [g2]; exact BBB.lists) hbl9 hbl9 hll9) ?_
      rintro _ _ ⟨rfl, rfl⟩
      simp only [go_sem, ↓reduceIte, Nat.reduceEqDiff, Nat.reduceLeDiff, Nat.reduceAdd, Nat.reduceMul, Nat.reduceSub, Nat.reduceBEq, Nat.reduceGT, Nat.reduceLT, Int.reduceLE, Int.reduceLT, Int.reduceNeg, reduceCtorEq, ptrOf, decide_true]
      repeat (refine FunI.by (F19 _ _) ?_; rintro _ _ ⟨rfl, rfl⟩; simp only [go_sem, ↓reduceIte, Nat.reduceEqDiff, Nat.reduceLeDiff, Nat.reduceAdd, Nat.reduceMul, Nat.reduceSub, Nat.reduceBEq, Nat.reduceGT, Nat.reduceLT, Int.reduceLE, Int.reduceLT, Int.reduceNeg, reduceCtorEq, ptrOf, Int.reduceEq])
      exact NB.1
    · first
        | exact absurd ke (by decide)
        | (cases kt; done)
        | (subst g1 g3
           simp only [go_sem, ↓reduceIte, Nat.reduceEqDiff, Nat.reduceLeDiff, Nat.reduceAdd, Nat.reduceMul, Nat.reduceSub, Nat.reduceBEq, Nat.reduceGT, Nat.reduceLT, Int.reduceLE, Int.reduceLT, Int.reduceNeg, reduceCtorEq, ptrOf, fin5]
           refine FunI.by (F15 _ _ l9 l9 HA olA.lists (by rw [g2]; exact AAA.lists) hbl9 hbl9 hll9) ?_
           rintro _ _ ⟨rfl, rfl⟩
           simp only [go_sem, ↓reduceIte, Nat.reduceEqDiff, Nat.reduceLeDiff, Nat.reduceAdd, Nat.reduceMul, Nat.reduceSub, Nat.reduceBEq, Nat.reduceGT, Nat.reduceLT, Int.reduceLE, Int.reduceLT, Int.reduceNeg, reduceCtorEq, ptrOf, decide_true]
           refine FunI.by (F19 _ _) ?_
           rintro _ _ ⟨rfl, rfl⟩
           simp only [go_sem, ↓reduceIte, Nat.reduceEqDiff, Nat.reduceLeDiff, Nat.reduceAdd, Nat.reduceMul, Nat.reduceSub, Nat.reduceBEq, Nat.reduceGT, Nat.reduceLT, Int.reduceLE, Int.reduceLT, Int.reduceNeg, reduceCtorEq, ptrOf, Int.reduceEq]
           refine RunI.by (conv_mark ty22 ty5) ?_
           rintro _ _ ⟨rfl, rfl⟩
           simp only [go_sem, ↓reduceIte, Nat.reduceEqDiff, Nat.reduceLeDiff, Nat.reduceAdd, Nat.reduceMul, Nat.reduceSub, Nat.reduceBEq, Nat.reduceGT, Nat.reduceLT, Int.reduceLE, Int.reduceLT, Int.reduceNeg, reduceCtorEq, ptrOf]
           rw [← hHB]
           refine FunI.by (F14 _ _ oldB newB HB oB.sl iB oldB_byt newB_byt) ?_
           rintro _ _ ⟨rfl, rfl⟩
           simp only [go_sem, ↓reduceIte, Nat.reduceEqDiff, Nat.reduceLeDiff, Nat.reduceAdd, Nat.reduceMul, Nat.reduceSub, Nat.reduceBEq, Nat.reduceGT, Nat.reduceLT, Int.reduceLE, Int.reduceLT, Int.reduceNeg, reduceCtorEq, ptrOf, fin2]
           repeat (refine FunI.by (F19 _ _) ?_; rintro _ _ ⟨rfl, rfl⟩; simp only [go_sem, ↓reduceIte, Nat.reduceEqDiff, Nat.reduceLeDiff, Nat.reduceAdd, Nat.reduceMul, Nat.reduceSub, Nat.reduceBEq, Nat.reduceGT, Nat.reduceLT, Int.reduceLE, Int.reduceLT, Int.reduceNeg, reduceCtorEq, ptrOf, Int.reduceEq])
           exact NB.1)
    · first
        | exact absurd ke (by decide)
        | (cases kt; done)
        | (subst g1 g3
           simp only [go_sem, ↓reduceIte, Nat.reduceEqDiff, Nat.reduceLeDiff, Nat.reduceAdd, Nat.reduceMul, Nat.reduceSub, Nat.reduceBEq, Nat.reduceGT, Nat.reduceLT, Int.reduceLE, Int.reduceLT, Int.reduceNeg, reduceCtorEq, ptrOf, fin3]
           refine RunI.by (conv_mark ty22 ty5) ?_
           rintro _ _ ⟨rfl, rfl⟩
           simp only [go_sem, ↓reduceIte, Nat.reduceEqDiff, Nat.reduceLeDiff, Nat.reduceAdd, Nat.reduceMul, Nat.reduceSub, Nat.reduceBEq, Nat.reduceGT, Nat.reduceLT, Int.reduceLE, Int.reduceLT, Int.reduceNeg, reduceCtorEq, ptrOf]
           rw [← hHB]
           refine FunI.by (F14 _ _ [] newB HB oB.sl iB hbh newB_byt) ?_
           rintro _ _ ⟨rfl, rfl⟩
           simp only [go_sem, ↓reduceIte, Nat.reduceEqDiff, Nat.reduceLeDiff, Nat.reduceAdd, Nat.reduceMul, Nat.reduceSub, Nat.reduceBEq, Nat.reduceGT, Nat.reduceLT, Int.reduceLE, Int.reduceLT, Int.reduceNeg, reduceCtorEq, ptrOf, fin4]
           repeat (refine FunI.by (F19 _ _) ?_; rintro _ _ ⟨rfl, rfl⟩; simp only [go_sem, ↓reduceIte, Nat.reduceEqDiff, Nat.reduceLeDiff, Nat.reduceAdd, Nat.reduceMul, Nat.reduceSub, Nat.reduceBEq, Nat.reduceGT, Nat.reduceLT, Int.reduceLE, Int.reduceLT, Int.reduceNeg, reduceCtorEq, ptrOf, Int.reduceEq])
           exact NB.1)
end Go.Proofs.YtgpoldjpmcoppaaDoor
