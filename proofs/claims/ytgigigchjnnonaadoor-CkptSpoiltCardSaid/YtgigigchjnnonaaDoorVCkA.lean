/- ckpt.fits, ckpt.Save, ckpt.Load. -/
import Derived.Test.YtgigigchjnnonaaDoorM2
import Derived.Test.YtgigigchjnnonaaDoorVPub2
set_option linter.unusedSimpArgs false
set_option linter.unusedVariables false
set_option maxRecDepth 20000
namespace Go.Proofs.YtgigigchjnnonaaDoor
open Go Go.V
-- 26: pith/ckpt.fits
-- 8: pith/ckpt.Save
-- 10: pith/ckpt.Load
-- 19: pith/ckpt.Encode
-- 22: pith/ckpt.Decode
-- 23: pith/ckpt.Name
-- 24: pith/files.Publish
-- 18: pith/files.Load
-- 25: (*pith/fs.FS).Power
-- 5: uint8
-- 42: []uint8
-- 49: [][]uint8
-- 3: int
-- 4: bool
-- 28: pith/api.Check
set_option maxHeartbeats 1600000 in
theorem F26 (v u : Value) (p k : Int) (xs deg : List Int) (ds : List Bool) (H : Heap) (hv : Chk H 3 4 v p xs ds) (hu : Ints H 3 .i64 u deg) (hl : xs.length ≤ 140737488350000) :
    Fun Tryd.prog 26 #[v, u, .int .i64 k] H (fun r H' => r = .bool (fitsC xs ds deg k) ∧ Ext H H') := by
  obtain ⟨a, b, rfl, ha, hb⟩ := hv
  obtain ⟨a1, a2, rfl⟩ := ha.form
  obtain ⟨b1, b2, rfl⟩ := hb.form
  obtain ⟨u1, u2, rfl⟩ := hu.form
  have x1 : Ext H (H.push (.cells #[.int .i64 p, .slice a1 xs.length a2, .slice b1 ds.length b2] 28)) := Ext.push _
  refine fun_of mixed (args := [_, _, _]) Tryd.func26 Tryd.ntmps26 b26 r26 rfl ?_
  have e1 : ((xs.length : Int) = deg.length) = (xs.length = deg.length) := by simp; omega
  by_cases h1 : xs.length = deg.length
  rotate_left
  · simp only [go_sem, ↓reduceIte, Nat.reduceEqDiff, Nat.reduceLeDiff, Nat.reduceAdd, Nat.reduceMul, Nat.reduceSub, Nat.reduceBEq, Nat.reduceGT, Nat.reduceLT, Int.reduceLE, Int.reduceLT, Int.reduceNeg, reduceCtorEq, e1, h1]
    refine ⟨?_, x1⟩
    simp [fitsC, h1]
  have e1t : ((xs.length : Int) = deg.length) = True := by simp; omega
  by_cases h2 : (ds.length : Int) = k
  rotate_left
  · simp only [go_sem, ↓reduceIte, Nat.reduceEqDiff, Nat.reduceLeDiff, Nat.reduceAdd, Nat.reduceMul, Nat.reduceSub, Nat.reduceBEq, Nat.reduceGT, Nat.reduceLT, Int.reduceLE, Int.reduceLT, Int.reduceNeg, reduceCtorEq, e1t, h2]
    refine ⟨?_, x1⟩
    simp [fitsC, h2]
  have hm : fitsC xs ds deg k = decide (∀ i, i < xs.length → xs.getD i 0 ≤ deg.getD i 0) := by
    simp only [fitsC, h1, h2, true_and]
  rw [hm]
  simp only [go_sem, ↓reduceIte, Nat.reduceEqDiff, Nat.reduceLeDiff, Nat.reduceAdd, Nat.reduceMul, Nat.reduceSub, Nat.reduceBEq, Nat.reduceGT, Nat.reduceLT, Int.reduceLE, Int.reduceLT, Int.reduceNeg, reduceCtorEq, e1t, h2]
  obtain ⟨H1, hH⟩ : ∃ H1, H1 = H.push (.cells #[.int .i64 p, .slice a1 xs.length a2, .slice b1 ds.length b2] 28) := ⟨_, rfl⟩
  rw [← hH] at x1 ⊢
  refine LoopI.by mixed (fun ρ H' => H1 = H' ∧ ∃ i : Nat, ρ 1 = .slice u1 deg.length u2 ∧ ρ 23 = .slice a1 xs.length a2 ∧ ρ 24 = .int .i64 xs.length ∧ ρ 25 = .int .i64 i ∧ i ≤ xs.length ∧ ∀ j, j < i → xs.getD j 0 ≤ deg.getD j 0) (fun ρ _ => xs.length - (iof (ρ 25)).toNat) ?_ ?_
  · exact ⟨rfl, 0, by simp only [go_sem, ↓reduceIte, Nat.reduceEqDiff, Nat.reduceLeDiff, Nat.reduceAdd, Nat.reduceMul, Nat.reduceSub, Nat.reduceBEq, Nat.reduceGT, Nat.reduceLT, Int.reduceLE, Int.reduceLT, Int.reduceNeg, reduceCtorEq], by simp only [go_sem, ↓reduceIte, Nat.reduceEqDiff, Nat.reduceLeDiff, Nat.reduceAdd, Nat.reduceMul, Nat.reduceSub, Nat.reduceBEq, Nat.reduceGT, Nat.reduceLT, Int.reduceLE, Int.reduceLT, Int.reduceNeg, reduceCtorEq], by simp only [go_sem, ↓reduceIte, Nat.reduceEqDiff, Nat.reduceLeDiff, Nat.reduceAdd, Nat.reduceMul, Nat.reduceSub, Nat.reduceBEq, Nat.reduceGT, Nat.reduceLT, Int.reduceLE, Int.reduceLT, Int.reduceNeg, reduceCtorEq], by simp only [go_sem, ↓reduceIte, Nat.reduceEqDiff, Nat.reduceLeDiff, Nat.reduceAdd, Nat.reduceMul, Nat.reduceSub, Nat.reduceBEq, Nat.reduceGT, Nat.reduceLT, Int.reduceLE, Int.reduceLT, Int.reduceNeg, reduceCtorEq]; rfl, by omega, fun j hj => absurd hj (by omega)⟩
  rintro ρ _ ⟨rfl, i, e1, e23, e24, e25, hi, hall⟩
  by_cases hlt : i < xs.length
  · have ha' := ha.ext x1
    have hu' := hu.ext x1
    obtain ⟨b, o, rfl⟩ := ha'.at hlt
    have g1 := ha'.get hlt
    obtain ⟨b', o', rfl⟩ := hu'.at (show i < deg.length by omega)
    have g2 := hu'.get (show i < deg.length by omega)
    have c1 : (i : Int) < xs.length := by omega
    have c2 : (i : Int) < deg.length := by omega
    have c0 : (0 : Int) ≤ i := by omega
    by_cases k1 : deg.getD i 0 < xs.getD i 0
    · simp only [go_sem, ↓reduceIte, Nat.reduceEqDiff, Nat.reduceLeDiff, Nat.reduceAdd, Nat.reduceMul, Nat.reduceSub, Nat.reduceBEq, Nat.reduceGT, Nat.reduceLT, Int.reduceLE, Int.reduceLT, Int.reduceNeg, reduceCtorEq, c26_L0, e1, e23, e24, e25, c0, c1, c2, g1, g2, k1]
      have : ¬ ∀ i, i < xs.length → xs.getD i 0 ≤ deg.getD i 0 := fun h => by have := h i hlt; omega
      exact ⟨by simpa using this, x1⟩
    simp only [go_sem, ↓reduceIte, Nat.reduceEqDiff, Nat.reduceLeDiff, Nat.reduceAdd, Nat.reduceMul, Nat.reduceSub, Nat.reduceBEq, Nat.reduceGT, Nat.reduceLT, Int.reduceLE, Int.reduceLT, Int.reduceNeg, reduceCtorEq, c26_L0, e1, e23, e24, e25, c0, c1, c2, g1, g2, k1]
    rw [w64_id (by omega) (by omega)]
    refine ⟨Hold.mk ⟨rfl, i + 1, by simp only [go_sem, ↓reduceIte, Nat.reduceEqDiff, Nat.reduceLeDiff, Nat.reduceAdd, Nat.reduceMul, Nat.reduceSub, Nat.reduceBEq, Nat.reduceGT, Nat.reduceLT, Int.reduceLE, Int.reduceLT, Int.reduceNeg, reduceCtorEq, e1], by simp only [go_sem, ↓reduceIte, Nat.reduceEqDiff, Nat.reduceLeDiff, Nat.reduceAdd, Nat.reduceMul, Nat.reduceSub, Nat.reduceBEq, Nat.reduceGT, Nat.reduceLT, Int.reduceLE, Int.reduceLT, Int.reduceNeg, reduceCtorEq, e23], by simp only [go_sem, ↓reduceIte, Nat.reduceEqDiff, Nat.reduceLeDiff, Nat.reduceAdd, Nat.reduceMul, Nat.reduceSub, Nat.reduceBEq, Nat.reduceGT, Nat.reduceLT, Int.reduceLE, Int.reduceLT, Int.reduceNeg, reduceCtorEq, e24], by simp only [go_sem, ↓reduceIte, Nat.reduceEqDiff, Nat.reduceLeDiff, Nat.reduceAdd, Nat.reduceMul, Nat.reduceSub, Nat.reduceBEq, Nat.reduceGT, Nat.reduceLT, Int.reduceLE, Int.reduceLT, Int.reduceNeg, reduceCtorEq]; rfl, by omega, fun j hj => ?_⟩, by omega⟩
    rcases (by omega : j < i ∨ j = i) with h | rfl
    · exact hall j h
    · omega
  · have c1 : ¬ (i : Int) < xs.length := by omega
    have : i = xs.length := by omega
    subst this
    simp only [go_sem, ↓reduceIte, Nat.reduceEqDiff, Nat.reduceLeDiff, Nat.reduceAdd, Nat.reduceMul, Nat.reduceSub, Nat.reduceBEq, Nat.reduceGT, Nat.reduceLT, Int.reduceLE, Int.reduceLT, Int.reduceNeg, reduceCtorEq, c26_L0, e1, e23, e24, e25, c1]
    exact ⟨by rw [decide_eq_true hall], x1⟩
/-- What the call made stands away from what there was. -/
theorem aw_own {H H' : Heap} {F : Nat → Prop} {u : Value} {xs : List Int} {B : Nat} (ho : V.Own H' B 5 1 u (xs.map (.int .u8))) (hF : ∀ g, F g → g < B) : Aw H' F H'.size u xs :=
  ⟨ho.sl, .inr fun g hg => ⟨fun e => by have := hF g e; have := (ho.blk hg).1; omega, (ho.blk hg).2.1⟩⟩
theorem awl_own {H H' : Heap} {F : Nat → Prop} {v : Value} {l : List (List Int)} {B : Nat} (ho : OwnLists H' B 42 5 v l) (hF : ∀ g, F g → g < B) : ∃ vs, AwL H' F H'.size v vs l := by
  obtain ⟨vs, h1, h2, _⟩ := ho
  exact ⟨vs, h1.sl, .inr fun g hg => ⟨fun e => by have := hF g e; have := (h1.blk hg).1; omega, (h1.blk hg).2.1⟩, h2.mono fun _ _ h => aw_own (H := H) h hF⟩
set_option maxHeartbeats 1600000 in
theorem F8 {F : Nat → Prop} {b : Nat} {s : St} (v : Value) (gen p : Int) (xs : List Int) (ds : List Bool) (H : Heap) (h : FsH H F b s) (ok : Ok s) (ho : s.ops < 1000000000) (h0 : ¬ F 0) (ht : CrcTab H) (tab : Tab H) (hv : Chk H 3 4 v p xs ds) (hm : mayC gen p xs ds = true) (hl : xs.length ≤ 5000) :
    Fun Tryd.prog 8 #[ptrOf b, .int .i64 gen, v] H (fun r H' => ∃ f F', f ∉ s.held ∧ r = .int .i64 (pubS s (nameS gen) (chkHead gen p xs ds) (chkData xs ds) f).2 ∧ FsH H' F' b (pubS s (nameS gen) (chkHead gen p xs ds) (chkData xs ds) f).1 ∧ ChX (fun _ => False) F F' H H') := by
  have hv' := hv
  obtain ⟨a, c, rfl, _, _⟩ := hv
  have x1 : Ext H (H.push (.cells #[.int .i64 p, a, c] 28)) := Ext.push _
  obtain ⟨m1, m2, m3, m4, m5, m6, m7⟩ := mayC_iff.1 hm
  have lF : ∀ g, F g → g < H.size := fun g hg => FsH.lt h hg
  refine fun_of mixed (args := [_, _, _]) Tryd.func8 Tryd.ntmps8 b8 r8 rfl ?_
  simp only [go_sem, ↓reduceIte, Nat.reduceEqDiff, Nat.reduceLeDiff, Nat.reduceAdd, Nat.reduceMul, Nat.reduceSub, Nat.reduceBEq, Nat.reduceGT, Nat.reduceLT, Int.reduceLE, Int.reduceLT, Int.reduceNeg, reduceCtorEq, ptrOf]
  obtain ⟨H1, hH⟩ : ∃ H1, H1 = H.push (.cells #[.int .i64 p, a, c] 28) := ⟨_, rfl⟩
  rw [← hH] at x1 ⊢
  refine FunI.by (F19 _ gen p xs ds H1 (hv'.ext x1)) ?_
  rintro _ H2 ⟨x2, hr⟩
  rcases hr with ⟨e, _⟩ | ⟨_, hd, l, rfl, ohd, ol⟩
  · rw [hm] at e; cases e
  have x12 := x1.trans (x2.mono x1.size)
  obtain ⟨ha1, ha2, rfl⟩ := Ints.form (xs := chkHead gen p xs ds) (k := .u8) ohd.sl
  obtain ⟨la1, la2, rfl⟩ := ol.lists.form
  simp only [go_sem, ↓reduceIte, Nat.reduceEqDiff, Nat.reduceLeDiff, Nat.reduceAdd, Nat.reduceMul, Nat.reduceSub, Nat.reduceBEq, Nat.reduceGT, Nat.reduceLT, Int.reduceLE, Int.reduceLT, Int.reduceNeg, reduceCtorEq, ptrOf]
  refine FunI.by (F23 gen H2 (tab.ext x12) (by omega) (by omega)) ?_
  rintro _ H3 ⟨rfl, x3⟩
  have x13 := x12.trans (x3.mono x12.size)
  have A3 := aw_own (H := H) (F := F) (ohd.ext x3) (fun g hg => Nat.lt_of_lt_of_le (lF g hg) x1.size)
  obtain ⟨vs, L3⟩ := awl_own (H := H) (F := F) (ol.ext x3) (fun g hg => Nat.lt_of_lt_of_le (lF g hg) x1.size)
  have hh := head_len gen p xs ds
  have hll := chk_len (ds := ds) hl
  have hnm : (nameS gen).size ≤ 1000000 := by
    have := itoa_len (n := gen) (by omega) (by omega)
    have e5 : (nameS gen).size = 5 + (Lib.itoa gen).length := by rw [nameS, ByteArray.size_append]; rfl
    omega
  simp only [go_sem, ↓reduceIte, Nat.reduceEqDiff, Nat.reduceLeDiff, Nat.reduceAdd, Nat.reduceMul, Nat.reduceSub, Nat.reduceBEq, Nat.reduceGT, Nat.reduceLT, Int.reduceLE, Int.reduceLT, Int.reduceNeg, reduceCtorEq, ptrOf]
  refine FunI.by (F24 (n := nameS gen) (h.ext x13) ok ho h0 (ht.ext x13) A3 L3 (head_wf _ _ _ _) (data_wf _ _) (by omega) (fun x hx => by have := (data_small hm x hx).2; omega) (by omega) hnm) ?_
  rintro _ H4 ⟨f, F', hf, rfl, h4, cx⟩
  simp only [go_sem, ↓reduceIte, Nat.reduceEqDiff, Nat.reduceLeDiff, Nat.reduceAdd, Nat.reduceMul, Nat.reduceSub, Nat.reduceBEq, Nat.reduceGT, Nat.reduceLT, Int.reduceLE, Int.reduceLT, Int.reduceNeg, reduceCtorEq]
  exact ⟨f, F', hf, rfl, h4, (Ext.chx x13).trans cx⟩
theorem hput_push3 {H : Heap} {z0 z1 z2 a b c : Value} {e : TypeId} : hput (H.push (.cells #[z0, z1, z2] e)) H.size 0 [a, b, c] = H.push (.cells #[a, b, c] e) := hput_push rfl
/-- What Load answers. -/
def CLoaded (s : St) (gen k : Int) (deg : List Int) (H : Heap) (r : Value) (H' : Heap) : Prop := Ext H H' ∧ ∃ hd l e, Loads s (nameS gen) hd l e ∧ match cloadS gen hd l e deg k with
  | none => r = .tuple #[.agg #[.int .i64 0, .slice none 0 0, .slice none 0 0], .bool false, .int .i64 0]
  | some (p, xs, ds) => ∃ a b, r = .tuple #[.agg #[.int .i64 p, a, b], .bool true, .int .i64 0] ∧ V.Own H' H.size 3 1 a (xs.map (.int .i64)) ∧ V.Own H' H.size 4 1 b (ds.map .bool)
set_option maxHeartbeats 3200000 in
theorem F10 {F : Nat → Prop} {b : Nat} {s : St} (u : Value) (gen k : Int) (deg : List Int) (H : Heap) (h : FsH H F b s) (ok : Ok s) (on : s.off = false) (ht : CrcTab H) (tab : Tab H) (hu : Ints H 3 .i64 u deg) (hg : 1 ≤ gen ∧ gen ≤ 2147483647)
    (hk : ∀ hd l e, Loads s (nameS gen) hd l e → Byt hd ∧ (∀ y ∈ l, Byt y ∧ y.length ≤ 140737488350000) ∧ l.length ≤ 1000000000) :
    Fun Tryd.prog 10 #[ptrOf b, .int .i64 gen, u, .int .i64 k] H (CLoaded s gen k deg H) := by
  obtain ⟨u1, u2, rfl⟩ := hu.form
  have x1 : Ext H (H.push (.cells #[.int .i64 0, .slice none 0 0, .slice none 0 0] 28)) := Ext.push _
  have k1 : (H.push (.cells #[.int .i64 0, .slice none 0 0, .slice none 0 0] 28))[H.size]? = some (.cells #[.int .i64 0, .slice none 0 0, .slice none 0 0] 28) := push_new
  have s1 : (H.push (.cells #[.int .i64 0, .slice none 0 0, .slice none 0 0] 28)).size = H.size + 1 := by simp
  refine fun_of mixed (args := [_, _, _, _]) Tryd.func10 Tryd.ntmps10 b10 r10 rfl ?_
  simp only [go_sem, ↓reduceIte, Nat.reduceEqDiff, Nat.reduceLeDiff, Nat.reduceAdd, Nat.reduceMul, Nat.reduceSub, Nat.reduceBEq, Nat.reduceGT, Nat.reduceLT, Int.reduceLE, Int.reduceLT, Int.reduceNeg, reduceCtorEq, ptrOf]
  obtain ⟨H1, hH⟩ : ∃ H1, H1 = H.push (.cells #[.int .i64 0, .slice none 0 0, .slice none 0 0] 28) := ⟨_, rfl⟩
  rw [← hH] at x1 k1 s1 ⊢
  have bad : ∀ {H' : Heap} {hd l e}, H1.size ≤ H'.size → H'[H.size]? = H1[H.size]? → Ext H H' → Loads s (nameS gen) hd l e → cloadS gen hd l e deg k = none →
      hcan H' H.size 0 3 ∧ loadV (tyOf Tryd.prog) 28 (.pointer (some ⟨H.size, 0, none⟩)) (hput H' H.size 0 [.int .i64 0, .slice none 0 0, .slice none 0 0]) fun v =>
        CLoaded s gen k deg H (.tuple #[v, .bool false, .int .i64 0]) (hput H' H.size 0 [.int .i64 0, .slice none 0 0, .slice none 0 0]) := by
    intro H' hd l e hs hc hx hL hn
    rw [k1] at hc
    refine ⟨hcan_of hc (by decide), ?_⟩
    simp only [loadV, ty28]
    refine ⟨_, hgets_put hc (by decide) rfl, hx.hput (Nat.le_refl _), hd, l, e, hL, ?_⟩
    rw [hn]
  refine FunI.by (F25 (h.ext x1)) ?_
  rintro _ _ ⟨rfl, rfl⟩
  simp only [go_sem, ↓reduceIte, Nat.reduceEqDiff, Nat.reduceLeDiff, Nat.reduceAdd, Nat.reduceMul, Nat.reduceSub, Nat.reduceBEq, Nat.reduceGT, Nat.reduceLT, Int.reduceLE, Int.reduceLT, Int.reduceNeg, reduceCtorEq, ptrOf, on, Bool.not_false]
  refine FunI.by (F23 gen H1 (tab.ext x1) (by omega) (by omega)) ?_
  rintro _ H2 ⟨rfl, x2⟩
  have x12 := x1.trans (x2.mono x1.size)
  simp only [go_sem, ↓reduceIte, Nat.reduceEqDiff, Nat.reduceLeDiff, Nat.reduceAdd, Nat.reduceMul, Nat.reduceSub, Nat.reduceBEq, Nat.reduceGT, Nat.reduceLT, Int.reduceLE, Int.reduceLT, Int.reduceNeg, reduceCtorEq, ptrOf]
  refine FunI.by (F18 (n := nameS gen) (h.ext x12) ok (ht.ext x12)) ?_
  rintro _ H3 ⟨hd, l, e, u3, v3, rfl, hL, x3, o3, ol3⟩
  have x13 := x12.trans (x3.mono x12.size)
  have x23 := x2.trans (x3.mono x2.size)
  obtain ⟨hb, hbl, hll⟩ := hk hd l e hL
  obtain ⟨a3, c3, rfl⟩ := Ints.form (xs := hd) (k := .u8) o3.sl
  obtain ⟨l3, m3, rfl⟩ := ol3.lists.form
  by_cases e0 : e = 0
  rotate_left
  · simp only [go_sem, ↓reduceIte, Nat.reduceEqDiff, Nat.reduceLeDiff, Nat.reduceAdd, Nat.reduceMul, Nat.reduceSub, Nat.reduceBEq, Nat.reduceGT, Nat.reduceLT, Int.reduceLE, Int.reduceLT, Int.reduceNeg, reduceCtorEq, e0]
    exact ⟨by decide, bad x23.size (x23.get _ (by omega)) x13 hL (cloadS_bad e0)⟩
  subst e0
  simp only [go_sem, ↓reduceIte, Nat.reduceEqDiff, Nat.reduceLeDiff, Nat.reduceAdd, Nat.reduceMul, Nat.reduceSub, Nat.reduceBEq, Nat.reduceGT, Nat.reduceLT, Int.reduceLE, Int.reduceLT, Int.reduceNeg, reduceCtorEq]
  refine FunI.by (F22 gen _ _ hd l H3 o3.sl hb ol3.lists hbl hll) ?_
  rintro _ H4 ⟨x4, hr⟩
  have x14 := x13.trans (x4.mono x13.size)
  have x24 := x23.trans (x4.mono x23.size)
  cases hdec : decS gen hd l with
  | none =>
    rw [hdec] at hr
    subst hr
    simp only [go_sem, ↓reduceIte, Nat.reduceEqDiff, Nat.reduceLeDiff, Nat.reduceAdd, Nat.reduceMul, Nat.reduceSub, Nat.reduceBEq, Nat.reduceGT, Nat.reduceLT, Int.reduceLE, Int.reduceLT, Int.reduceNeg, reduceCtorEq, hput_push3, hcan_push, List.all_cons, List.all_nil, Value.oneCell', Int.reduceEq]
    have x5 : Ext H4 (H4.push (.cells #[.int .i64 0, .slice none 0 0, .slice none 0 0] 28)) := Ext.push _
    have x25 := x24.trans (x5.mono x24.size)
    exact bad x25.size (x25.get _ (by omega)) (x14.trans (x5.mono x14.size)) hL (by unfold cloadS; rw [hdec]; rfl)
  | some q =>
    obtain ⟨p, xs, ds⟩ := q
    rw [hdec] at hr
    obtain ⟨a, c, rfl, oa, oc⟩ := hr
    have ia : Ints H4 3 .i64 a xs := oa.sl
    have ic : Bls H4 4 c ds := oc.sl
    obtain ⟨qa, ra, rfl⟩ := ia.form
    obtain ⟨qc, rc, rfl⟩ := ic.form
    have x5 : Ext H4 (H4.push (.cells #[.int .i64 p, .slice qa xs.length ra, .slice qc ds.length rc] 28)) := Ext.push _
    obtain ⟨H5, hH5⟩ : ∃ H5, H5 = H4.push (.cells #[.int .i64 p, .slice qa xs.length ra, .slice qc ds.length rc] 28) := ⟨_, rfl⟩
    have k5 : H5[H4.size]? = some (.cells #[.int .i64 p, .slice qa xs.length ra, .slice qc ds.length rc] 28) := by rw [hH5]; exact push_new
    have s5 : H5.size = H4.size + 1 := by rw [hH5]; simp
    simp only [go_sem, ↓reduceIte, Nat.reduceEqDiff, Nat.reduceLeDiff, Nat.reduceAdd, Nat.reduceMul, Nat.reduceSub, Nat.reduceBEq, Nat.reduceGT, Nat.reduceLT, Int.reduceLE, Int.reduceLT, Int.reduceNeg, reduceCtorEq, hput_push3, hcan_push, List.all_cons, List.all_nil, Value.oneCell', Int.reduceEq]
    rw [← hH5] at x5 ⊢
    have x15 := x14.trans (x5.mono x14.size)
    have x25 := x24.trans (x5.mono x24.size)
    have hxl : xs.length ≤ 140737488350000 := by
      have h3 := (decS_iff hb (fun y hy => (hbl y hy).1)).1 hdec
      obtain ⟨m1, m2, m3, m4, m5, m6, m7⟩ := mayC_iff.1 h3.1
      omega
    refine FunI.by (F26 _ _ p k xs deg ds H5 ⟨_, _, rfl, ia.ext x5, ic.ext x5⟩ (hu.ext x15) hxl) ?_
    rintro _ H6 ⟨rfl, x6⟩
    have x16 := x15.trans (x6.mono x15.size)
    have x26 := x25.trans (x6.mono x25.size)
    cases hf : fitsC xs ds deg k with
    | false =>
      simp only [go_sem, ↓reduceIte, Nat.reduceEqDiff, Nat.reduceLeDiff, Nat.reduceAdd, Nat.reduceMul, Nat.reduceSub, Nat.reduceBEq, Nat.reduceGT, Nat.reduceLT, Int.reduceLE, Int.reduceLT, Int.reduceNeg, reduceCtorEq]
      exact ⟨by decide, bad x26.size (x26.get _ (by omega)) x16 hL (by unfold cloadS; rw [hdec]; simp [hf])⟩
    | true =>
      have k6 : H6[H4.size]? = some (.cells #[.int .i64 p, .slice qa xs.length ra, .slice qc ds.length rc] 28) := (x6.get _ (by omega)).trans k5
      have j0 : hget H6 H4.size 0 = some (.int .i64 p) := by rw [hget_cells k6]; rfl
      have j1 : hget H6 H4.size 1 = some (.slice qa xs.length ra) := by rw [hget_cells k6]; rfl
      have j2 : hget H6 H4.size 2 = some (.slice qc ds.length rc) := by rw [hget_cells k6]; rfl
      simp only [go_sem, ↓reduceIte, Nat.reduceEqDiff, Nat.reduceLeDiff, Nat.reduceAdd, Nat.reduceMul, Nat.reduceSub, Nat.reduceBEq, Nat.reduceGT, Nat.reduceLT, Int.reduceLE, Int.reduceLT, Int.reduceNeg, reduceCtorEq, j0, j1, j2]
      have k7 : H6[H.size]? = some (.cells #[.int .i64 0, .slice none 0 0, .slice none 0 0] 28) := (x26.get _ (by omega)).trans k1
      refine ⟨rfl, hcan_of k7 (by decide), ?_⟩
      simp only [loadV, ty28]
      have hne : ∀ g, H3.size ≤ g → g ≠ H.size := fun g hg e => by have := x23.size; omega
      have oa6 : V.Own H6 H3.size 3 1 (.slice qa xs.length ra) (xs.map (.int .i64)) := (oa.ext x5).ext x6
      have oc6 : V.Own H6 H3.size 4 1 (.slice qc ds.length rc) (ds.map .bool) := (oc.ext x5).ext x6
      refine ⟨_, hgets_put k7 (by simp) rfl, x16.hput (Nat.le_refl _), hd, l, 0, hL, ?_⟩
      have hcl : cloadS gen hd l 0 deg k = some (p, xs, ds) := by unfold cloadS; rw [hdec]; simp [hf]
      rw [hcl]
      exact ⟨_, _, rfl, (oa6.keep fun g hg => hput_other _ _ _ _ (hne g (oa6.blk hg).1)).mono x13.size, (oc6.keep fun g hg => hput_other _ _ _ _ (hne g (oc6.blk hg).1)).mono x13.size⟩
end Go.Proofs.YtgigigchjnnonaaDoor
