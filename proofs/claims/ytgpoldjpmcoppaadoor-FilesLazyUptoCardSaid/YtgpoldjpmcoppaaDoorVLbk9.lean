/- The law FilesBack, over heaps. -/
import Derived.Test.YtgpoldjpmcoppaaDoorVFst9
import Derived.Test.YtgpoldjpmcoppaaDoorVRw4
import Derived.Test.YtgpoldjpmcoppaaDoorVCodeL
set_option linter.unusedSimpArgs false
set_option linter.unusedVariables false
set_option maxRecDepth 20000
namespace Go.V
open Go
def nmF : Nm := ⟨#[102]⟩
theorem nmF_nm : isNm nmF = true := by decide +kernel
theorem ints_lt {H : Heap} {e : TypeId} {k : IntKind} {u : Value} {xs : List Int} (h : Ints H e k u xs) : xs = [] ∨ ∀ g, blk u = some g → g < H.size := by
  obtain ⟨a, len, cap, rfl, hc, hl, hd⟩ := h
  rcases hd with rfl | ⟨b, o, c, t, fr, rfl, hb, _⟩
  · left; simpa using hl
  · right
    intro g hg
    have : b = g := by simpa [blk] using hg
    subst this
    exact (Array.getElem?_eq_some_iff.1 hb).1
end Go.V
namespace Go.Proofs.YtgpoldjpmcoppaaDoor
open Go Go.V
-- 3: pith/pithlaw9.FilesBack
-- 9: pith/pithlaw9.first
-- 10: pith/fs.New
-- 11: pith/pithlaw9.clipped
-- 12: pith/pithlaw9.put
-- 13: pith/files.Load
-- 16: (*pith/fs.FS).Size
-- 17: (*pith/fs.FS).Read
-- 18: pith/pithref3.Row
-- 19: pith/pithlaw9.num
-- 14: pith/pithref.SameBytes
-- 15: pith/pithref.SameByteLists
-- 20: pith/pithref.SameFrame
-- 22: []uint8
-- 23: [][]uint8
-- 5: uint8
-- 44: api.Frame
theorem aw_of {H0 H : Heap} {F : Nat → Prop} {K : Nat} {u : Value} {xs : List Int} (hu : Ints H0 5 .u8 u xs) (x : Ext H0 H) (hF : ∀ g, F g → H0.size ≤ g) (hK : H0.size ≤ K) : Aw H F K u xs :=
  ⟨hu.ext x, (ints_lt hu).imp id fun h g hg => ⟨fun e => by have := hF g e; have := h g hg; omega, Nat.lt_of_lt_of_le (h g hg) hK⟩⟩
theorem awl_of {H0 H : Heap} {F : Nat → Prop} {B : Nat} {v : Value} {vs : List Value} {l : List (List Int)} (ho : V.Own H B 22 1 v vs) (ha : All2 (fun u xs => Ints H0 5 .u8 u xs) vs l) (x : Ext H0 H) (hF : ∀ g, F g → H0.size ≤ g) (hB : ∀ g, F g → g < B) : AwL H F H.size v vs l :=
  ⟨ho.sl, .inr fun g hg => ⟨fun e => by have := hB g e; have := (ho.blk hg).1; omega, (ho.blk hg).2.1⟩, ha.mono fun _ _ h => aw_of h x hF x.size⟩
theorem take_min (hd : List Int) : hd.take (min hd.length 1024) = hd.take 1024 := by
  rw [← List.take_take, List.take_of_length_le (l := hd.take 1024) (by simp; omega)]
theorem clipL_facts {l : List (List Int)} (hb : ∀ x ∈ l, Byt x) : (clipL l).length ≤ 40 ∧ (∀ x ∈ clipL l, x.length ≤ 1024) ∧ ∀ x ∈ clipL l, Byt x := by
  unfold clipL
  refine ⟨by simp; omega, fun x hx => ?_, fun x hx => ?_⟩
  · obtain ⟨y, hy, rfl⟩ := List.mem_map.1 hx
    simp; omega
  · obtain ⟨y, hy, rfl⟩ := List.mem_map.1 hx
    exact fun c hc => hb y (List.mem_of_mem_take hy) c (List.mem_of_mem_take hc)
/-- head[:min(len(head), MaxPayload)]. -/
theorem head_cut {H : Heap} {a : Option Addr} {cap : Nat} {hd : List Int} (h : Ints H 5 .u8 (.slice a hd.length cap) hd) : Ints H 5 .u8 (.slice a (min hd.length 1024) cap) (hd.take 1024) := by
  have := ints_take h (m := min hd.length 1024) (by omega)
  rw [take_min] at this
  exact this
theorem fr_get {H : Heap} {N : Nat → Prop} {e : TypeId} {a : Option Addr} {len cap : Nat} {R : List Fr} (h : RecN frK H N e 5 (.slice a len cap) R) {j : Nat} {f : Fr} (hj : R[j]? = some f) :
    ∃ b o, a = some ⟨b, o, none⟩ ∧ ∃ u, hget H b (o + j * 2) = some (.int .i64 f.1) ∧ hget H b (o + j * 2 + 1) = some u ∧ Ints H 5 .u8 u f.2 := by
  obtain ⟨P, rfl, hp⟩ := h
  rw [List.getElem?_map] at hj
  obtain ⟨q, hq, rfl⟩ := Option.map_eq_some_iff.1 hj
  obtain ⟨b, o, rfl⟩ := hp.at (List.getElem?_eq_some_iff.1 hq).1
  obtain ⟨_, g, hi, _⟩ := hp.get hq
  exact ⟨b, o, rfl, q.1, g 0 (by decide), g 1 (by decide), hi⟩
theorem file_get (hd : List Int) (l : List (List Int)) : (fileR hd l)[0]? = some (1, hd) ∧ (fileR hd l)[l.length + 1]? = some (3, be4 l.length) ∧ ∀ i, i < l.length → (fileR hd l)[i + 1]? = some (2, l.getD i []) := by
  unfold fileR
  refine ⟨rfl, ?_, fun i hi => ?_⟩
  · rw [List.cons_append, List.getElem?_cons_succ, List.getElem?_append_right (by simp)]
    simp
  · rw [List.cons_append, List.getElem?_cons_succ, List.getElem?_append_left (by simpa using hi), List.getElem?_map, List.getElem?_eq_getElem hi, List.getD_eq_getElem?_getD, List.getElem?_eq_getElem hi]
    rfl
set_option maxHeartbeats 6400000 in
theorem F3 (u : Value) (hd : List Int) (v : Value) (l : List (List Int)) (H : Heap) (hu : Ints H 5 .u8 u hd) (hb : Byt hd) (hv : Lists H 22 5 v l) (hbl : ∀ x ∈ l, Byt x) (ht : CrcTab H) (hl1 : hd.length ≤ 1048576) (hl2 : l.length ≤ 1048576) :
    Fun Tryd.prog 3 #[u, v] H (fun r H' => r = .bool true ∧ Ext H H') := by
  obtain ⟨ua, uc, rfl⟩ := hu.form
  obtain ⟨va, vc, rfl⟩ := hv.form
  refine fun_of mixed (args := [_, _]) Tryd.func3 Tryd.ntmps3 b3 r3 rfl ?_
  simp only [go_sem, ↓reduceIte, Nat.reduceEqDiff, Nat.reduceLeDiff, Nat.reduceAdd, Nat.reduceMul, Nat.reduceSub, Nat.reduceBEq, Nat.reduceGT, Nat.reduceLT, Int.reduceLE, Int.reduceLT, Int.reduceNeg, reduceCtorEq]
  refine FunI.by (F9 H ht) ?_
  rintro _ H1 ⟨rfl, x1⟩
  simp only [go_sem, ↓reduceIte, Nat.reduceEqDiff, Nat.reduceLeDiff, Nat.reduceAdd, Nat.reduceMul, Nat.reduceSub, Nat.reduceBEq, Nat.reduceGT, Nat.reduceLT, Int.reduceLE, Int.reduceLT, Int.reduceNeg, reduceCtorEq]
  refine FunI.by (F10 1048576 H1 trivial) ?_
  rintro _ H2 ⟨x2, h⟩
  rw [if_neg (by omega)] at h
  obtain ⟨b, F, rfl, h2, n2⟩ := h
  have x12 := Upto.ext x1 x1.size x2
  have hs1 := x1.size
  have nF : ∀ g, F g → H.size ≤ g := fun g hg => Nat.le_trans hs1 (n2 g hg)
  have uc0 := Sl.lecap hu
  have em : (if (1024 : Int) < hd.length then (1024 : Int) else hd.length) = ((min hd.length 1024 : Nat) : Int) := by omega
  have ew : (if uc = 0 then ua else Option.map (fun x => x) ua) = ua := by cases ua <;> simp
  simp only [go_sem, ↓reduceIte, Nat.reduceEqDiff, Nat.reduceLeDiff, Nat.reduceAdd, Nat.reduceMul, Nat.reduceSub, Nat.reduceBEq, Nat.reduceGT, Nat.reduceLT, Int.reduceLE, Int.reduceLT, Int.reduceNeg, reduceCtorEq, ptrOf, em, ew, Int.toNat_natCast]
  refine ⟨⟨by omega, by omega⟩, ?_⟩
  refine FunI.by (F11 _ l x12 hv) ?_
  rintro w H3 ⟨vs, ow, ha, x3⟩
  have x03 := Upto.ext x12 x12.size x3
  have hu3 := aw_of (K := H3.size) (F := F) (head_cut hu) x03 nF x03.size
  have hv3 := awl_of ow ha x03 nF (fun g hg => FsH.lt h2 hg)
  obtain ⟨cl1, cl2, cl3⟩ := clipL_facts hbl
  have p0 : Peace (freshS 1048576) := Peace.fresh (by omega)
  have N3 : Newly H H3 F := ⟨x03, nF⟩
  obtain ⟨f3, t3⟩ := N3.stg0 ht
  have bh : Byt (hd.take 1024) := fun c hc => hb c (List.mem_of_mem_take hc)
  have lh : (hd.take 1024).length ≤ 1024 := by simp; omega
  have lh2 : (hd.take 1024).length = min hd.length 1024 := by simp; omega
  simp only [go_sem, ↓reduceIte, Nat.reduceEqDiff, Nat.reduceLeDiff, Nat.reduceAdd, Nat.reduceMul, Nat.reduceSub, Nat.reduceBEq, Nat.reduceGT, Nat.reduceLT, Int.reduceLE, Int.reduceLT, Int.reduceNeg, reduceCtorEq, ptrOf]
  refine FunI.by (F12 (n := nmF) ⟨h2.ext x3, p0, f3, t3⟩ nmF_nm rfl (by decide) hu3 hv3 bh cl3 lh cl2 cl1 (by rw [held_fresh]; decide)) ?_
  rintro _ H4 ⟨rfl, f, F4, hf, st4, hnow, cx4⟩
  have N4 := N3.chx cx4 (fun _ e => e.elim)
  have hu4 := hu3.keep cx4 (fun _ e => e.elim) (Nat.le_refl _)
  have hv4 := hv3.keep cx4 (fun _ e => e.elim) (Nat.le_refl _)
  obtain ⟨S, hS⟩ : ∃ S, S = doneS (freshS 1048576) nmF f (hd.take 1024) (clipL l) true := ⟨_, rfl⟩
  have hdat : S.dat f = rowB (fileR (hd.take 1024) (clipL l)) := by rw [hS]; exact setF_same _ _ _
  rw [← hS] at st4 hnow
  clear hS hu3 hv3 cx4 N3 f3 t3
  obtain ⟨hd', hhd⟩ : ∃ z, z = hd.take 1024 := ⟨_, rfl⟩
  obtain ⟨l', hll⟩ : ∃ z, z = clipL l := ⟨_, rfl⟩
  rw [← hhd] at hu4 hdat bh lh lh2
  rw [← hll] at hv4 hdat cl1 cl2 cl3
  have hu4' := hu4.1
  rw [← lh2] at hu4'
  obtain ⟨wa, wc, rfl⟩ := hv4.form
  simp only [go_sem, ↓reduceIte, Nat.reduceEqDiff, Nat.reduceLeDiff, Nat.reduceAdd, Nat.reduceMul, Nat.reduceSub, Nat.reduceBEq, Nat.reduceGT, Nat.reduceLT, Int.reduceLE, Int.reduceLT, Int.reduceNeg, reduceCtorEq, ptrOf]
  refine FunI.by (F13 (n := nmF) st4.fs st4.pc.ok st4.crc) ?_
  rintro _ H5 ⟨hd5, l5, e5, u5, v5, rfl, hL, x5, o5, ol5⟩
  obtain ⟨e51, e52, e53⟩ := loads_file st4.pc hnow hdat lh cl2 hL
  rw [e51] at o5
  rw [e52] at ol5
  subst e53
  obtain ⟨a5, c5, rfl⟩ := Ints.form (xs := hd') (k := .u8) o5.sl
  obtain ⟨b5, d5, rfl⟩ := ol5.lists.form
  simp only [go_sem, ↓reduceIte, Nat.reduceEqDiff, Nat.reduceLeDiff, Nat.reduceAdd, Nat.reduceMul, Nat.reduceSub, Nat.reduceBEq, Nat.reduceGT, Nat.reduceLT, Int.reduceLE, Int.reduceLT, Int.reduceNeg, reduceCtorEq, ptrOf]
  rw [← lh2]
  refine FunI.by (F14 _ _ _ _ H5 o5.sl (hu4'.ext x5) bh bh) ?_
  rintro _ _ ⟨rfl, rfl⟩
  simp only [go_sem, ↓reduceIte, Nat.reduceEqDiff, Nat.reduceLeDiff, Nat.reduceAdd, Nat.reduceMul, Nat.reduceSub, Nat.reduceBEq, Nat.reduceGT, Nat.reduceLT, Int.reduceLE, Int.reduceLT, Int.reduceNeg, reduceCtorEq, ptrOf]
  refine FunI.by (F15 _ _ _ _ H5 ol5.lists (hv4.lists.ext x5) cl3 cl3 (by omega)) ?_
  rintro _ _ ⟨rfl, rfl⟩
  have fs5 := st4.fs.ext x5
  obtain ⟨mb, lb, hb5, pv, dv, hP5⟩ := fs5
  simp only [go_sem, ↓reduceIte, Nat.reduceEqDiff, Nat.reduceLeDiff, Nat.reduceAdd, Nat.reduceMul, Nat.reduceSub, Nat.reduceBEq, Nat.reduceGT, Nat.reduceLT, Int.reduceLE, Int.reduceLT, Int.reduceNeg, reduceCtorEq, ptrOf]
  refine FunI.by (F16 hP5 st4.pc.ok.nowH nmF) ?_
  rintro _ H6 ⟨rfl, x6⟩
  have hsz := size_calm st4.pc hnow
  have fl := file_len lh cl2
  rw [hdat] at hsz
  rw [hsz]
  obtain ⟨L, hL9⟩ : ∃ L, L = (rowB (fileR hd' l')).length := ⟨_, rfl⟩
  have hrd := read_calm st4.pc hnow (a := 0) (k := L) (by omega) (by omega)
  rw [hdat, show Int.toNat 0 = 0 from rfl, List.drop_zero, List.take_of_length_le (by omega)] at hrd
  rw [← hL9] at hsz ⊢ fl
  simp only [go_sem, ↓reduceIte, Nat.reduceEqDiff, Nat.reduceLeDiff, Nat.reduceAdd, Nat.reduceMul, Nat.reduceSub, Nat.reduceBEq, Nat.reduceGT, Nat.reduceLT, Int.reduceLE, Int.reduceLT, Int.reduceNeg, reduceCtorEq, ptrOf]
  refine FunI.by (F17 (hP5.ext x6) st4.pc.ok nmF 0 L (by omega)) ?_
  rintro _ H7 ⟨u7, rfl, o7, x7⟩
  rw [hrd] at o7 ⊢
  simp only [go_sem, ↓reduceIte, Nat.reduceEqDiff, Nat.reduceLeDiff, Nat.reduceAdd, Nat.reduceMul, Nat.reduceSub, Nat.reduceBEq, Nat.reduceGT, Nat.reduceLT, Int.reduceLE, Int.reduceLT, Int.reduceNeg, reduceCtorEq, ptrOf]
  have fm := file_mem ⟨lh, bh⟩ (fun p hp => ⟨cl2 p hp, cl3 p hp⟩)
  have frl : (fileR hd' l').length = l'.length + 2 := by simp [fileR]
  refine FunI.by (F18 o7.sl fm (by omega) (by omega)) ?_
  rintro _ H8 ⟨w8, N8, rfl, hr8, x8⟩
  obtain ⟨ra, rc, rfl⟩ := hr8.form
  rw [frl] at hr8 ⊢
  have e2 : IntKind.i64.wrap ((l'.length : Int) + 2) = ((l'.length + 2 : Nat) : Int) := by rw [w64_id (by omega) (by omega)]; omega
  rw [← hL9]
  simp only [go_sem, ↓reduceIte, Nat.reduceEqDiff, Nat.reduceLeDiff, Nat.reduceAdd, Nat.reduceMul, Nat.reduceSub, Nat.reduceBEq, Nat.reduceGT, Nat.reduceLT, Int.reduceLE, Int.reduceLT, Int.reduceNeg, reduceCtorEq, ptrOf]
  repeat (refine FunI.by (F19 _ _) ?_; rintro _ _ ⟨rfl, rfl⟩; simp only [go_sem, ↓reduceIte, Nat.reduceEqDiff, Nat.reduceLeDiff, Nat.reduceAdd, Nat.reduceMul, Nat.reduceSub, Nat.reduceBEq, Nat.reduceGT, Nat.reduceLT, Int.reduceLE, Int.reduceLT, Int.reduceNeg, reduceCtorEq, ptrOf, e2])
  have x58 : Ext H5 H8 := Upto.ext (Upto.ext x6 x6.size x7) (by have := x6.size; have := x7.size; omega) x8
  have N8' : Ext H H8 := ((N4.ext x5).ext x58).1
  have hv8 := (hv4.lists.ext x5).ext x58
  obtain ⟨fg0, fg1, fg2⟩ := file_get hd' l'
  refine LoopI.by mixed (fun ρ H' => ∃ (i : Nat), ρ 1 = .slice wa l'.length wc ∧ ρ 16 = .slice ra (l'.length + 2) rc ∧ ρ 19 = .int .i64 i ∧ i ≤ l'.length ∧ Ext H8 H') (fun ρ _ => l'.length - (iof (ρ 19)).toNat) ?_ ?_
  · exact ⟨0, by simp only [go_sem, ↓reduceIte, Nat.reduceEqDiff, Nat.reduceLeDiff, Nat.reduceAdd, Nat.reduceMul, Nat.reduceSub, Nat.reduceBEq, Nat.reduceGT, Nat.reduceLT, Int.reduceLE, Int.reduceLT, Int.reduceNeg, reduceCtorEq], by simp only [go_sem, ↓reduceIte, Nat.reduceEqDiff, Nat.reduceLeDiff, Nat.reduceAdd, Nat.reduceMul, Nat.reduceSub, Nat.reduceBEq, Nat.reduceGT, Nat.reduceLT, Int.reduceLE, Int.reduceLT, Int.reduceNeg, reduceCtorEq], by simp only [go_sem, ↓reduceIte, Nat.reduceEqDiff, Nat.reduceLeDiff, Nat.reduceAdd, Nat.reduceMul, Nat.reduceSub, Nat.reduceBEq, Nat.reduceGT, Nat.reduceLT, Int.reduceLE, Int.reduceLT, Int.reduceNeg, reduceCtorEq] <;> rfl, by omega, Upto.refl _ _⟩
  rintro ρ H9 ⟨i, e1, e16, e19, hi, x9⟩
  have hr9 := hr8.ext x9
  have hv9 := hv8.ext x9
  by_cases hlt : i < l'.length
  · have c0 : (0 : Int) ≤ i := by omega
    have c1 : (i : Int) < l'.length := by omega
    have w1 : IntKind.i64.wrap ((i : Int) + 1) = ((i + 1 : Nat) : Int) := by rw [w64_id (by omega) (by omega)]; omega
    have c2 : (0 : Int) ≤ ((i + 1 : Nat) : Int) := by omega
    have c3 : ((i + 1 : Nat) : Int) < ((l'.length + 2 : Nat) : Int) := by omega
    obtain ⟨gb, go, rfl, u9, g0, g1, hi9⟩ := fr_get hr9 (fg2 i hlt)
    obtain ⟨vb, vo, rfl⟩ := hv9.at hlt
    obtain ⟨w9, g9, hw9⟩ := hv9.get hlt
    have bi := cl3 _ (mem_getD hlt [])
    obtain ⟨w9a, w9c, rfl⟩ := hw9.form
    obtain ⟨u9a, u9c, rfl⟩ := Ints.form (xs := l'.getD i []) (k := .u8) hi9
    simp only [c3_L0, go_sem, ↓reduceIte, Nat.reduceEqDiff, Nat.reduceLeDiff, Nat.reduceAdd, Nat.reduceMul, Nat.reduceSub, Nat.reduceBEq, Nat.reduceGT, Nat.reduceLT, Int.reduceLE, Int.reduceLT, Int.reduceNeg, reduceCtorEq, e1, e16, e19, c0, c1, c2, c3, w1, Int.toNat_natCast, g0, g1, g9]
    refine FunI.by (F20 hi9 hw9 bi bi) ?_
    rintro _ H10 ⟨rfl, x10⟩
    have q1 : decide (l'.getD i [] = l'.getD i [] ∧ (2, l'.getD i []).1 = (2 : Int)) = true := decide_eq_true ⟨rfl, rfl⟩
    simp only [go_sem, ↓reduceIte, Nat.reduceEqDiff, Nat.reduceLeDiff, Nat.reduceAdd, Nat.reduceMul, Nat.reduceSub, Nat.reduceBEq, Nat.reduceGT, Nat.reduceLT, Int.reduceLE, Int.reduceLT, Int.reduceNeg, reduceCtorEq, e1, e16, e19, w1, q1]
    refine ⟨Hold.mk ⟨i + 1, by simp only [go_sem, ↓reduceIte, Nat.reduceEqDiff, Nat.reduceLeDiff, Nat.reduceAdd, Nat.reduceMul, Nat.reduceSub, Nat.reduceBEq, Nat.reduceGT, Nat.reduceLT, Int.reduceLE, Int.reduceLT, Int.reduceNeg, reduceCtorEq, e1], by simp only [go_sem, ↓reduceIte, Nat.reduceEqDiff, Nat.reduceLeDiff, Nat.reduceAdd, Nat.reduceMul, Nat.reduceSub, Nat.reduceBEq, Nat.reduceGT, Nat.reduceLT, Int.reduceLE, Int.reduceLT, Int.reduceNeg, reduceCtorEq, e16], by simp only [go_sem, ↓reduceIte, Nat.reduceEqDiff, Nat.reduceLeDiff, Nat.reduceAdd, Nat.reduceMul, Nat.reduceSub, Nat.reduceBEq, Nat.reduceGT, Nat.reduceLT, Int.reduceLE, Int.reduceLT, Int.reduceNeg, reduceCtorEq], by omega, Upto.ext x9 x9.size x10⟩, by omega⟩
  · have c1 : ¬ (i : Int) < l'.length := by omega
    obtain ⟨gb, go, rfl, u9, g0, g1, hi9⟩ := fr_get hr9 fg1
    obtain ⟨gb', go', eg, u0, k0, k1, hi0⟩ := fr_get hr9 fg0
    obtain ⟨rfl, rfl⟩ : gb = gb' ∧ go = go' := by simpa using eg
    rw [Nat.zero_mul, Nat.add_zero] at k0
    simp only at k0 g0
    have w2 : IntKind.i64.wrap (((l'.length + 2 : Nat) : Int) - 1) = ((l'.length + 1 : Nat) : Int) := by rw [w64_id (by omega) (by omega)]; omega
    have c2 : (0 : Int) ≤ ((l'.length + 1 : Nat) : Int) := by omega
    have c3 : ((l'.length + 1 : Nat) : Int) < ((l'.length + 2 : Nat) : Int) := by omega
    have c4 : (0 : Int) < ((l'.length + 2 : Nat) : Int) := by omega
    have w3 : IntKind.u8.wrap (l'.length : Int) = l'.length := wu8_id (by omega) (by omega)
    have z0 : Int.toNat 0 = 0 := rfl
    simp only [c3_L0, go_sem, ↓reduceIte, Nat.reduceEqDiff, Nat.reduceLeDiff, Nat.reduceAdd, Nat.reduceMul, Nat.reduceSub, Nat.reduceBEq, Nat.reduceGT, Nat.reduceLT, Int.reduceLE, Int.reduceLT, Int.reduceNeg, reduceCtorEq, e1, e16, e19, c1, w2, c2, c3, Int.toNat_natCast, g0, g1, w3]
    have x10 : Ext H9 (H9.push (.cells #[.int .u8 0, .int .u8 0, .int .u8 0, .int .u8 l'.length] 5)) := Ext.push _
    have i10 := lit_ints (H := H9) (n := 4) (c := #[.int .u8 0, .int .u8 0, .int .u8 0, .int .u8 (l'.length : Int)]) (fr := (0, 0)) (xs := [0, 0, 0, (l'.length : Int)]) (k := .u8) (e := 5) rfl rfl
    have eb : be4 (l'.length : Int) = [0, 0, 0, (l'.length : Int)] := by
      unfold be4
      rw [show (l'.length : Int) / 16777216 % 256 = 0 by omega, show (l'.length : Int) / 65536 % 256 = 0 by omega, show (l'.length : Int) / 256 % 256 = 0 by omega, show (l'.length : Int) % 256 = l'.length by omega]
    refine FunI.by (F14 _ _ (be4 l'.length) [0, 0, 0, (l'.length : Int)] _ (hi9.ext x10) i10 (be4_byt _) (by rw [← eb]; exact be4_byt _)) ?_
    rintro _ _ ⟨rfl, rfl⟩
    have g0' := (x10.hget (hget_lt g0)).trans g0
    have k0' := (x10.hget (hget_lt k0)).trans k0
    rw [decide_eq_true eb]
    simp only [go_sem, ↓reduceIte, Nat.reduceEqDiff, Nat.reduceLeDiff, Nat.reduceAdd, Nat.reduceMul, Nat.reduceSub, Nat.reduceBEq, Nat.reduceGT, Nat.reduceLT, Int.reduceLE, Int.reduceLT, Int.reduceNeg, reduceCtorEq, e1, e16, e19, w2, c2, c3, c4, z0, Int.toNat_natCast, g0', k0', Nat.zero_mul, Nat.add_zero]
    have x89 := Upto.ext N8' N8'.size x9
    exact Upto.ext x89 x89.size x10
end Go.Proofs.YtgpoldjpmcoppaaDoor
