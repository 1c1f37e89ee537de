/- CkptDecodes answers true and leaves all that there was: both decoders answer alike, over bytes that lie in longer rows; the walk, over heaps. -/
import Derived.Test.YtbdclcdoiabapaaDoorVPlain2
import Derived.Test.YtbdclcdoiabapaaDoorVMark
set_option linter.unusedSimpArgs false
set_option linter.unusedVariables false
namespace Go.Proofs.YtbdclcdoiabapaaDoor
open Go Go.V
-- 5: pith/pithlaw18.CkptDecodes
-- 7: pith/pithlaw18.first
-- 20: pith/ckpt.Decode
-- 21: pith/pithref18.Decode
-- 17: pith/pithlaw18.short
-- 18: pith/pithref.Bytes
-- 19: pith/pithref.ByteLists
-- 16: pith/pithlaw18.num
-- 22: pith/pithref.SameCheck
-- 5: uint8
-- 30: []uint8
-- 31: [][]uint8
-- 4: bool
-- 3: int
-- 9: string
-- 28: pith/api.Check

theorem hput_push3' {H : Heap} {z0 z1 z2 a b c : Value} {e : TypeId} : hput (H.push (.cells #[z0, z1, z2] e)) H.size 0 [a, b, c] = H.push (.cells #[a, b, c] e) := hput_push rfl
/-- What lies behind each payload. -/
def mk : List Int := [47, 11]
def ct (data : List (List Int)) (i : Nat) : List (List Int) := (data.take i).map (· ++ mk) ++ data.drop i
theorem ct_len (data : List (List Int)) (i : Nat) : (ct data i).length = data.length := by
  simp [ct]; omega
theorem ct_get {data : List (List Int)} {i : Nat} (h : i < data.length) : (ct data i)[i]? = some (data.getD i []) := by
  rw [ct, List.getElem?_append_right (by simp; omega)]
  simp only [List.length_map, List.length_take, Nat.min_eq_left (Nat.le_of_lt h), Nat.sub_self, List.getElem?_drop, Nat.add_zero]
  rw [List.getElem?_eq_getElem h]
  simp [List.getD_eq_getElem?_getD, List.getElem?_eq_getElem h]
theorem ct_succ {data : List (List Int)} {i : Nat} (h : i < data.length) : (ct data i).set i (data.getD i [] ++ mk) = ct data (i + 1) := by
  have e1 : data.drop i = data.getD i [] :: data.drop (i + 1) := by
    rw [List.drop_eq_getElem_cons h]
    simp [List.getD_eq_getElem?_getD, List.getElem?_eq_getElem h]
  rw [ct, ct, take_succ_getD h [], List.map_append, e1, List.set_append_right _ _ (by simp; omega)]
  simp only [List.length_map, List.length_take, Nat.min_eq_left (Nat.le_of_lt h), Nat.sub_self, List.set_cons_zero, List.map_cons, List.map_nil]
  simp
theorem ct_end (data : List (List Int)) : ct data data.length = data.map (· ++ mk) := by simp [ct]
def cuts (vs : List Value) (data : List (List Int)) : List Value := List.zipWith (fun w ys => cut w ys.length) vs data

theorem cuts_ints {H : Heap} {B : Nat} : ∀ {vs : List Value} {data : List (List Int)}, All2 (fun u xs => Own H B 5 1 u (xs.map (.int .u8))) vs (data.map (· ++ mk)) → All2 (fun u xs => Ints H 5 .u8 u xs) (cuts vs data) data
  | [], [], _ => trivial
  | v :: vs, y :: data, h => ⟨cut_ints (show Ints H 5 .u8 v (y ++ mk) from h.1.sl), cuts_ints h.2⟩
  | [], _ :: _, h => h.elim
  | _ :: _, [], h => h.elim
/-- What Decode answers, in one form. -/
theorem decR_form {H H' : Heap} {o : Option (Int × List Int × List Bool)} {r : Value} (h : decR H o r H') : Ext H H' ∧ ∃ (p : Int) (xs : List Int) (ds : List Bool) (a1 b1 : Option Addr) (a2 b2 : Nat), (p, xs, ds) = o.getD (0, [], []) ∧
    r = .tuple #[.agg #[.int .i64 p, .slice a1 xs.length a2, .slice b1 ds.length b2], .int .i64 (if o.isNone then 90 else 0)] ∧ Own H' H.size 3 1 (.slice a1 xs.length a2) (xs.map (.int .i64)) ∧ Own H' H.size 4 1 (.slice b1 ds.length b2) (ds.map .bool) := by
  cases o with
  | none =>
    obtain ⟨hx, rfl⟩ := h
    exact ⟨hx, 0, [], [], none, none, 0, 0, rfl, rfl, Own.nil, Own.nil⟩
  | some t =>
    obtain ⟨p, xs, ds⟩ := t
    obtain ⟨hx, a, b, rfl, ha, hb⟩ := h
    obtain ⟨a1, a2, rfl⟩ := (show Ints H' 3 .i64 a xs from ha.sl).form
    obtain ⟨b1, b2, rfl⟩ := (show Bls H' 4 b ds from hb.sl).form
    exact ⟨hx, p, xs, ds, a1, b1, a2, b2, rfl, rfl, ha, hb⟩
theorem decS_small {id : Int} {head : List Int} {data : List (List Int)} (hw : Byt head) (hd : ∀ y ∈ data, Byt y) {p : Int} {xs : List Int} {ds : List Bool} (h : (p, xs, ds) = (decS id head data).getD (0, [], [])) : xs.length ≤ 16777216 ∧ ds.length ≤ 1000 := by
  cases hc : decS id head data with
  | none => rw [hc] at h; cases h; simp
  | some t =>
    rw [hc] at h
    cases h
    obtain ⟨hm, _⟩ := (decS_iff hw hd).1 hc
    obtain ⟨_, _, _, _, m5, m6, _⟩ := mayC_iff.1 hm
    exact ⟨m5, m6⟩

set_option maxHeartbeats 4000000 in
set_option maxRecDepth 20000 in
theorem F5 (gen : Int) (vh vd : Value) (head : List Int) (data : List (List Int)) (H : Heap) (hh : Ints H 5 .u8 vh head) (hw : Byt head) (hd : Lists H 30 5 vd data) (hby : ∀ y ∈ data, Byt y)
    (hl : data.length ≤ 1048576) (hl2 : ∀ l ∈ data, l.length ≤ 1048576) (ht : Tab H) :
    Fun Tryd.prog 5 #[.int .i64 gen, vh, vd] H (fun r H' => r = .bool true ∧ Ext H H') := by
  obtain ⟨d1, d2, rfl⟩ := hd.form
  obtain ⟨h1, h2, rfl⟩ := hh.form
  refine fun_of mixed (args := [_, _, _]) Tryd.func5 Tryd.ntmps5 b5 r5 rfl ?_
  simp only [go_sem, ↓reduceIte, Nat.reduceEqDiff, Nat.reduceLeDiff, Nat.reduceAdd, Nat.reduceMul, Nat.reduceSub, Nat.reduceBEq, Nat.reduceGT, Nat.reduceLT, Int.reduceLE, Int.reduceLT, Int.reduceNeg, reduceCtorEq]
  refine FunI.by (F7 H ht) ?_
  rintro _ H1 ⟨rfl, hx1⟩
  simp only [go_sem, ↓reduceIte, Nat.reduceEqDiff, Nat.reduceLeDiff, Nat.reduceAdd, Nat.reduceMul, Nat.reduceSub, Nat.reduceBEq, Nat.reduceGT, Nat.reduceLT, Int.reduceLE, Int.reduceLT, Int.reduceNeg, reduceCtorEq]
  refine FunI.by (F17 _ data H1 (hd.ext hx1) (by omega) (fun l hll => by have := hl2 l hll; omega)) ?_
  rintro _ _ ⟨rfl, rfl⟩
  by_cases hsh : data.length < 100 ∧ ∀ l ∈ data, l.length ≤ 5000
  · have hshd := decide_eq_true hsh
    by_cases hh5 : (5000 : Int) < head.length
    · simp only [go_sem, ↓reduceIte, Nat.reduceEqDiff, Nat.reduceLeDiff, Nat.reduceAdd, Nat.reduceMul, Nat.reduceSub, Nat.reduceBEq, Nat.reduceGT, Nat.reduceLT, Int.reduceLE, Int.reduceLT, Int.reduceNeg, reduceCtorEq, hshd, hh5]
      exact hx1
    · simp only [go_sem, ↓reduceIte, Nat.reduceEqDiff, Nat.reduceLeDiff, Nat.reduceAdd, Nat.reduceMul, Nat.reduceSub, Nat.reduceBEq, Nat.reduceGT, Nat.reduceLT, Int.reduceLE, Int.reduceLT, Int.reduceNeg, reduceCtorEq, hshd, hh5]
      refine FunI.by (F18 _ head H1 (hh.ext hx1) (by omega)) ?_
      rintro m0 H2 ⟨hm0, hx2⟩
      have hxa := hx1.trans (hx2.mono hx1.size)
      simp only [go_sem, ↓reduceIte, Nat.reduceEqDiff, Nat.reduceLeDiff, Nat.reduceAdd, Nat.reduceMul, Nat.reduceSub, Nat.reduceBEq, Nat.reduceGT, Nat.reduceLT, Int.reduceLE, Int.reduceLT, Int.reduceNeg, reduceCtorEq]
      refine RunI.by (append_lit ty30 ty5 rfl (by decide) hm0 (ys := [.int .u8 47, .int .u8 11]) (m := 2) rfl rfl (n := head.length + 2) (by simp) (by omega) (by omega) hx2.size) ?_
      rintro m1 H3 ⟨hm1, hg3, _⟩
      have hx3 := hg3.upto hm0 hx2.size
      have hxb : Ext H H3 := hxa.trans (hx3.mono hx1.size)
      replace hm1 : Own H3 H1.size 5 1 m1 ((head ++ mk).map (.int .u8)) := by rw [List.map_append]; exact hm1
      simp only [go_sem, ↓reduceIte, Nat.reduceEqDiff, Nat.reduceLeDiff, Nat.reduceAdd, Nat.reduceMul, Nat.reduceSub, Nat.reduceBEq, Nat.reduceGT, Nat.reduceLT, Int.reduceLE, Int.reduceLT, Int.reduceNeg, reduceCtorEq]
      refine FunI.by (F19 _ data H3 (hd.ext hxb) (by omega) (fun l hll => by have := hl2 l hll; omega)) ?_
      rintro v9 H4 ⟨⟨vs, ho9, ha9, hp9⟩, hx4⟩
      have hxc := hxb.trans (hx4.mono hxb.size)
      have hvl : vs.length = data.length := ha9.length
      obtain ⟨r1, r2, rfl⟩ : ∃ r1 r2, v9 = .slice r1 data.length r2 := by
        obtain ⟨a, len, cap, rfl⟩ := ho9.sl.form
        have := Sl.length ho9.sl
        refine ⟨a, cap, ?_⟩
        rw [← hvl, this]
        simp
      have hm4 : Own H4 H1.size 5 1 m1 ((head ++ mk).map (.int .u8)) := hm1.ext hx4
      obtain ⟨m1a, m1c, rfl⟩ := (show Ints H4 5 .u8 m1 (head ++ mk) from hm4.sl).form
      have w2 : IntKind.i64.wrap ((data.length : Int) + 2) = ((data.length + 2 : Nat) : Int) := by rw [w64_id (by omega) (by omega)]; omega
      simp only [go_sem, ↓reduceIte, Nat.reduceEqDiff, Nat.reduceLeDiff, Nat.reduceAdd, Nat.reduceMul, Nat.reduceSub, Nat.reduceBEq, Nat.reduceGT, Nat.reduceLT, Int.reduceLE, Int.reduceLT, Int.reduceNeg, reduceCtorEq, w2, Int.toNat_natCast]
      refine ⟨by omega, by omega, by omega, ?_⟩
      have hx34 : Ext H3 H4 := hx4
      refine LoopI.by mixed (fun σ H' => ∃ (i : Nat) (vs : List Value) (v10 : Value), σ 0 = .int .i64 gen ∧ σ 1 = .slice h1 head.length h2 ∧ σ 2 = .slice d1 data.length d2 ∧ σ 7 = .bool true ∧ σ 8 = .slice m1a (head ++ mk).length m1c ∧ σ 9 = .slice r1 data.length r2 ∧ σ 10 = v10 ∧ σ 11 = .int .i64 i ∧ i ≤ data.length ∧ vs.length = data.length ∧
        Own H' H3.size 30 1 (.slice r1 data.length r2) vs ∧ All2 (fun u xs => Own H' H3.size 5 1 u (xs.map (.int .u8))) vs (ct data i) ∧ vs.Pairwise Apart ∧ Own H' H3.size 30 1 v10 (cuts (vs.take i) (data.take i)) ∧ Apart (.slice r1 data.length r2) v10 ∧ Ext H3 H') (fun σ _ => data.length - (iof (σ 11)).toNat) ?_ ?_
      · have hmade := Own.made (H := H4) (B := H3.size) (e := 30) (sz := 1) (l := 0) (c := data.length + 2) (z := .slice none 0 0) hx4.size (by omega) (by omega)
        rw [Nat.mul_one, Nat.zero_mul, List.take_zero] at hmade
        refine ⟨0, vs, .slice (some ⟨H4.size, 0, none⟩) 0 (data.length + 2), by simp only [go_sem, ↓reduceIte, Nat.reduceEqDiff, Nat.reduceLeDiff, Nat.reduceAdd, Nat.reduceMul, Nat.reduceSub, Nat.reduceBEq, Nat.reduceGT, Nat.reduceLT, Int.reduceLE, Int.reduceLT, Int.reduceNeg, reduceCtorEq], by simp only [go_sem, ↓reduceIte, Nat.reduceEqDiff, Nat.reduceLeDiff, Nat.reduceAdd, Nat.reduceMul, Nat.reduceSub, Nat.reduceBEq, Nat.reduceGT, Nat.reduceLT, Int.reduceLE, Int.reduceLT, Int.reduceNeg, reduceCtorEq], by simp only [go_sem, ↓reduceIte, Nat.reduceEqDiff, Nat.reduceLeDiff, Nat.reduceAdd, Nat.reduceMul, Nat.reduceSub, Nat.reduceBEq, Nat.reduceGT, Nat.reduceLT, Int.reduceLE, Int.reduceLT, Int.reduceNeg, reduceCtorEq], by simp only [go_sem, ↓reduceIte, Nat.reduceEqDiff, Nat.reduceLeDiff, Nat.reduceAdd, Nat.reduceMul, Nat.reduceSub, Nat.reduceBEq, Nat.reduceGT, Nat.reduceLT, Int.reduceLE, Int.reduceLT, Int.reduceNeg, reduceCtorEq], by simp only [go_sem, ↓reduceIte, Nat.reduceEqDiff, Nat.reduceLeDiff, Nat.reduceAdd, Nat.reduceMul, Nat.reduceSub, Nat.reduceBEq, Nat.reduceGT, Nat.reduceLT, Int.reduceLE, Int.reduceLT, Int.reduceNeg, reduceCtorEq], by simp only [go_sem, ↓reduceIte, Nat.reduceEqDiff, Nat.reduceLeDiff, Nat.reduceAdd, Nat.reduceMul, Nat.reduceSub, Nat.reduceBEq, Nat.reduceGT, Nat.reduceLT, Int.reduceLE, Int.reduceLT, Int.reduceNeg, reduceCtorEq], by simp only [go_sem, ↓reduceIte, Nat.reduceEqDiff, Nat.reduceLeDiff, Nat.reduceAdd, Nat.reduceMul, Nat.reduceSub, Nat.reduceBEq, Nat.reduceGT, Nat.reduceLT, Int.reduceLE, Int.reduceLT, Int.reduceNeg, reduceCtorEq]; rfl, by simp only [go_sem, ↓reduceIte, Nat.reduceEqDiff, Nat.reduceLeDiff, Nat.reduceAdd, Nat.reduceMul, Nat.reduceSub, Nat.reduceBEq, Nat.reduceGT, Nat.reduceLT, Int.reduceLE, Int.reduceLT, Int.reduceNeg, reduceCtorEq]; rfl, by omega, hvl, ho9.push _, ?_, hp9, by simpa [cuts] using hmade, ?_, hx4.trans ((Ext.push _).mono hx4.size)⟩
        · rw [show ct data 0 = data by simp [ct]]
          exact ha9.mono fun _ _ h => h.push _
        · cases hb : blk (.slice r1 data.length r2) with
          | none => exact .inl hb
          | some g =>
            right
            rw [hb]
            have := (ho9.blk hb).2.1
            simp only [blk, ne_eq, Option.some.injEq]
            omega
      rintro σ H5 ⟨i, vs, v10, f0, f1, f2, f7, f8, f9, f10, f11, hi, hvl, ho9, ha9, hp9, ho10, hap, hx5⟩
      have hxd := hxb.trans (hx5.mono hxb.size)
      by_cases hlt : i < data.length
      · have c0 : (0 : Int) ≤ i := by omega
        have c1 : (i : Int) < data.length := by omega
        obtain ⟨rb, ro, rfl⟩ := ho9.sl.at (by omega)
        obtain ⟨u, hu⟩ : ∃ u, vs[i]? = some u := ⟨_, List.getElem?_eq_getElem (by omega)⟩
        have gu : hget H5 rb (ro + i) = some u := by rw [Sl.get ho9.sl (by omega)]; exact hu
        obtain ⟨xs, hxs, hou⟩ := All2.getL' ha9 hu
        rw [ct_get hlt] at hxs
        obtain rfl : data.getD i [] = xs := by simpa using hxs
        have hlen : (data.getD i []).length ≤ 5000 := hsh.2 _ (mem_getD hlt [])
        simp only [go_sem, ↓reduceIte, Nat.reduceEqDiff, Nat.reduceLeDiff, Nat.reduceAdd, Nat.reduceMul, Nat.reduceSub, Nat.reduceBEq, Nat.reduceGT, Nat.reduceLT, Int.reduceLE, Int.reduceLT, Int.reduceNeg, reduceCtorEq, c5_L0, f0, f1, f2, f7, f8, f9, f10, f11, c0, c1, gu, Int.toNat_natCast]
        refine RunI.by (append_lit ty30 ty5 rfl (by decide) hou (ys := [.int .u8 47, .int .u8 11]) (m := 2) rfl rfl (n := (data.getD i []).length + 2) (by simp) (by omega) (by omega) hx5.size) ?_
        rintro w H6 ⟨hw6, hg6, _⟩
        replace hw6 : Own H6 H3.size 5 1 w ((data.getD i [] ++ mk).map (.int .u8)) := by rw [List.map_append]; exact hw6
        have hx6 : Ext H3 H6 := hx5.trans (hg6.upto hou hx5.size)
        obtain ⟨ha6, hp6⟩ := set_own ha9 hp9 hu hg6 hw6
        rw [ct_succ hlt] at ha6
        have ho96 := ho9.byTag hou hg6.but (by decide)
        have ho106 := ho10.byTag hou hg6.but (by decide)
        obtain ⟨wa, wc, rfl⟩ := (show Ints H6 5 .u8 w (data.getD i [] ++ mk) from hw6.sl).form
        have hwc := Sl.lecap hw6.sl
        rw [List.length_append, show mk.length = 2 from rfl] at hwc
        obtain ⟨rfl, hcan6, hst, hbut, _⟩ := ho96.store hlt (.slice wa (data.getD i [] ++ mk).length wc)
        rw [Nat.zero_add] at hcan6 hst hbut
        have hrb := (ho96.blk (g := rb) rfl).1
        have hx7 := hx6.hput (b := rb) (o := i) (vs := [.slice wa (data.getD i [] ++ mk).length wc]) hrb
        have ha7 := ha6.mono fun _ _ h => Own.byTag h ho96 hbut (by decide)
        have ho107 := ho106.out (u := .slice (some ⟨rb, 0, none⟩) data.length r2) hbut hap.symm
        have g7 : hget (hput H6 rb i [.slice wa (data.getD i [] ++ mk).length wc]) rb i = some (.slice wa (data.getD i [] ++ mk).length wc) := by
          have := Sl.get hst.sl (i := i) (by omega)
          rw [Nat.zero_add] at this
          rw [this, List.getElem?_set_self (by omega)]
        obtain ⟨db, dof, rfl⟩ := hd.at hlt
        obtain ⟨y, gy, hy⟩ := (hd.ext (hxb.trans (hx7.mono hxb.size))).get hlt
        obtain ⟨y1, y2, rfl⟩ := hy.form
        have hvset : (vs.set i (.slice wa (data.getD i [] ++ mk).length wc)).length = data.length := by rw [List.length_set]; exact hvl
        simp only [go_sem, ↓reduceIte, Nat.reduceEqDiff, Nat.reduceLeDiff, Nat.reduceAdd, Nat.reduceMul, Nat.reduceSub, Nat.reduceBEq, Nat.reduceGT, Nat.reduceLT, Int.reduceLE, Int.reduceLT, Int.reduceNeg, reduceCtorEq, f0, f1, f2, f7, f8, f9, f10, f11, c0, c1, Int.toNat_natCast, g7, gy]
        generalize hput H6 rb i [.slice wa (data.getD i [] ++ mk).length wc] = H7 at *
        have hcut : (if wc = 0 then wa else Option.map (fun x => x) wa) = wa := by cases wa <;> simp
        rw [hcut]
        have hcl : (cuts (vs.take i) (data.take i)).length = i := by simp [cuts, hvl]; omega
        refine ⟨rfl, hcan6, ⟨by omega, by omega⟩, Ext.push _, ?_⟩
        refine RunI.by (append_lit ty31 ty30 rfl (by decide) ho107 (ys := [.slice wa (data.getD i []).length wc]) (m := 1) rfl rfl (n := i + 1) (by rw [hcl]; simp) (by omega) (by omega) hx7.size) ?_
        rintro v11 H8 ⟨ho8, hg8, _⟩
        have hx8 : Ext H3 H8 := hx7.trans (hg8.upto ho107 hx7.size)
        simp only [go_sem, ↓reduceIte, Nat.reduceEqDiff, Nat.reduceLeDiff, Nat.reduceAdd, Nat.reduceMul, Nat.reduceSub, Nat.reduceBEq, Nat.reduceGT, Nat.reduceLT, Int.reduceLE, Int.reduceLT, Int.reduceNeg, reduceCtorEq, f11, w64_id (n := (i : Int) + 1) (by omega) (by omega)]
        refine ⟨Hold.mk ⟨i + 1, vs.set i (.slice wa (data.getD i [] ++ mk).length wc), v11, by simp only [go_sem, ↓reduceIte, Nat.reduceEqDiff, Nat.reduceLeDiff, Nat.reduceAdd, Nat.reduceMul, Nat.reduceSub, Nat.reduceBEq, Nat.reduceGT, Nat.reduceLT, Int.reduceLE, Int.reduceLT, Int.reduceNeg, reduceCtorEq, f0], by simp only [go_sem, ↓reduceIte, Nat.reduceEqDiff, Nat.reduceLeDiff, Nat.reduceAdd, Nat.reduceMul, Nat.reduceSub, Nat.reduceBEq, Nat.reduceGT, Nat.reduceLT, Int.reduceLE, Int.reduceLT, Int.reduceNeg, reduceCtorEq, f1], by simp only [go_sem, ↓reduceIte, Nat.reduceEqDiff, Nat.reduceLeDiff, Nat.reduceAdd, Nat.reduceMul, Nat.reduceSub, Nat.reduceBEq, Nat.reduceGT, Nat.reduceLT, Int.reduceLE, Int.reduceLT, Int.reduceNeg, reduceCtorEq, f2], by simp only [go_sem, ↓reduceIte, Nat.reduceEqDiff, Nat.reduceLeDiff, Nat.reduceAdd, Nat.reduceMul, Nat.reduceSub, Nat.reduceBEq, Nat.reduceGT, Nat.reduceLT, Int.reduceLE, Int.reduceLT, Int.reduceNeg, reduceCtorEq, f7], by simp only [go_sem, ↓reduceIte, Nat.reduceEqDiff, Nat.reduceLeDiff, Nat.reduceAdd, Nat.reduceMul, Nat.reduceSub, Nat.reduceBEq, Nat.reduceGT, Nat.reduceLT, Int.reduceLE, Int.reduceLT, Int.reduceNeg, reduceCtorEq, f8], by simp only [go_sem, ↓reduceIte, Nat.reduceEqDiff, Nat.reduceLeDiff, Nat.reduceAdd, Nat.reduceMul, Nat.reduceSub, Nat.reduceBEq, Nat.reduceGT, Nat.reduceLT, Int.reduceLE, Int.reduceLT, Int.reduceNeg, reduceCtorEq, f9], by simp only [go_sem, ↓reduceIte, Nat.reduceEqDiff, Nat.reduceLeDiff, Nat.reduceAdd, Nat.reduceMul, Nat.reduceSub, Nat.reduceBEq, Nat.reduceGT, Nat.reduceLT, Int.reduceLE, Int.reduceLT, Int.reduceNeg, reduceCtorEq], by simp only [go_sem, ↓reduceIte, Nat.reduceEqDiff, Nat.reduceLeDiff, Nat.reduceAdd, Nat.reduceMul, Nat.reduceSub, Nat.reduceBEq, Nat.reduceGT, Nat.reduceLT, Int.reduceLE, Int.reduceLT, Int.reduceNeg, reduceCtorEq]; rfl, by omega, hvset, ?_, ?_, hp6, ?_, ?_, hx8⟩, by omega⟩
        · exact hst.out hg8.but hap
        · exact ha7.mono fun _ _ h => Own.byTag h ho107 hg8.but (by decide)
        · have e1 : cuts ((vs.set i (.slice wa (data.getD i [] ++ mk).length wc)).take (i + 1)) (data.take (i + 1)) = cuts (vs.take i) (data.take i) ++ [.slice wa (data.getD i []).length wc] := by
            rw [take_succ_getD (by omega) (.bool false), take_succ_getD hlt [], List.take_set_of_le (Nat.le_refl _)]
            have e2 : (vs.set i (.slice wa (data.getD i [] ++ mk).length wc)).getD i (.bool false) = .slice wa (data.getD i [] ++ mk).length wc := by
              rw [List.getD_eq_getElem?_getD, List.getElem?_set_self (by omega)]
              rfl
            rw [e2, cuts, List.zipWith_append (by simp [hvl])]
            rfl
          rw [e1]
          exact ho8
        · rcases hg8.at' with h | ⟨g, h, hgl⟩
          · rcases hap with hp | hp
            · exact .inl hp
            · right; rw [h]; exact hp
          · right
            rw [h]
            have := (hst.blk (g := rb) rfl).2.1
            simp only [blk, ne_eq, Option.some.injEq]
            omega
      · have c1 : ¬ (i : Int) < data.length := by omega
        have hin : i = data.length := by omega
        subst hin
        rw [ct_end] at ha9
        rw [List.take_of_length_le (by omega), List.take_of_length_le (Nat.le_refl _)] at ho10
        have hcl : (cuts vs data).length = data.length := by simp [cuts, hvl]
        simp only [go_sem, ↓reduceIte, Nat.reduceEqDiff, Nat.reduceLeDiff, Nat.reduceAdd, Nat.reduceMul, Nat.reduceSub, Nat.reduceBEq, Nat.reduceGT, Nat.reduceLT, Int.reduceLE, Int.reduceLT, Int.reduceNeg, reduceCtorEq, c5_L0, f0, f1, f2, f7, f8, f9, f10, f11, c1]
        refine RunI.by (conv_mark ty30 ty5) ?_
        rintro _ _ ⟨rfl, rfl⟩
        simp only [go_sem, ↓reduceIte, Nat.reduceEqDiff, Nat.reduceLeDiff, Nat.reduceAdd, Nat.reduceMul, Nat.reduceSub, Nat.reduceBEq, Nat.reduceGT, Nat.reduceLT, Int.reduceLE, Int.reduceLT, Int.reduceNeg, reduceCtorEq]
        refine RunI.by (conv_mark ty30 ty5) ?_
        rintro _ _ ⟨rfl, rfl⟩
        simp only [go_sem, ↓reduceIte, Nat.reduceEqDiff, Nat.reduceLeDiff, Nat.reduceAdd, Nat.reduceMul, Nat.reduceSub, Nat.reduceBEq, Nat.reduceGT, Nat.reduceLT, Int.reduceLE, Int.reduceLT, Int.reduceNeg, reduceCtorEq]
        obtain ⟨M1, hM1⟩ : ∃ M1 : Obj, M1 = .cells #[.int .u8 109, .int .u8 97, .int .u8 114, .int .u8 107] 5 (4, 5) := ⟨_, rfl⟩
        obtain ⟨M2, hM2⟩ : ∃ M2 : Obj, M2 = .cells #[.int .u8 109, .int .u8 111, .int .u8 114, .int .u8 101] 5 (4, 5) := ⟨_, rfl⟩
        rw [← hM1, ← hM2]
        have hs1 : Ints ((H5.push M1).push M2) 5 .u8 (.slice (some ⟨H5.size, 0, none⟩) 4 4) [109, 97, 114, 107] := by
          rw [hM1]
          exact Sl.ext (Sl.new (sz := 1) (n := 4) rfl) (Ext.push _)
        have hs2 : Ints ((H5.push M1).push M2) 5 .u8 (.slice (some ⟨(H5.push M1).size, 0, none⟩) 4 4) [109, 111, 114, 101] := by
          rw [hM2]
          exact Sl.new (sz := 1) (n := 4) rfl
        have hxm : Ext H5 ((H5.push M1).push M2) := (Ext.push _).trans ((Ext.push _).mono (by simp))
        have hb1 : ((H5.push M1).push M2)[H5.size]? = some M1 := by rw [push_old (by simp)]; exact push_new
        have hb2 : ((H5.push M1).push M2)[(H5.push M1).size]? = some M2 := push_new
        generalize (H5.push M1).size = j2 at *
        generalize (H5.push M1).push M2 = Hm at *
        generalize H5.size = j1 at *
        replace ho9 := ho9.ext hxm
        replace ho10 := ho10.ext hxm
        have ha9m := ha9.mono fun _ _ h => Own.ext h hxm
        have hxm3 : Ext H3 Hm := hx5.trans (hxm.mono hx5.size)
        refine RunI.by (append_lit ty31 ty30 rfl (by decide) ho10 (ys := [.slice (some ⟨j1, 0, none⟩) 4 4, .slice (some ⟨j2, 0, none⟩) 4 4]) (m := 2) rfl rfl (n := data.length + 2) (by rw [hcl]; simp) (by omega) (by omega) hxm3.size) ?_
        rintro v12 H6 ⟨ho6, hg6, _⟩
        have tagd : ∀ {b : Nat} {c : Array Value} {fr : Nat × Nat}, Hm[b]? = some (.cells c 5 fr) → H6[b]? = Hm[b]? := by
          intro b c fr hb
          refine hg6.but.get b (Array.getElem?_eq_some_iff.1 hb).1 fun h => ?_
          obtain ⟨_, _, c', hc'⟩ := ho10.blk h.symm
          rw [hb] at hc'
          cases hc'
        replace hs1 : Ints H6 5 .u8 _ _ := Sl.at1 hs1 (tagd (by rw [hb1, hM1]))
        replace hs2 : Ints H6 5 .u8 _ _ := Sl.at1 hs2 (tagd (by rw [hb2, hM2]))
        replace ho9 := ho9.out hg6.but hap
        have ha6 := ha9m.mono fun _ _ h => Own.byTag h ho10 hg6.but (by decide)
        have hx6 : Ext H3 H6 := hxm3.trans (hg6.upto ho10 hxm3.size)
        have hm6 := hm1.ext hx6
        have hxe := hxb.trans (hx6.mono hxb.size)
        have hgl : (cuts vs data ++ [Value.slice (some ⟨j1, 0, none⟩) 4 4, Value.slice (some ⟨j2, 0, none⟩) 4 4]).length = data.length + 2 := by simp [hcl]
        obtain ⟨g1, g2, rfl⟩ : ∃ g1 g2, v12 = .slice g1 (data.length + 2) g2 := by
          obtain ⟨a, len, cap, rfl⟩ := ho6.sl.form
          have := Sl.length ho6.sl
          refine ⟨a, cap, ?_⟩
          rw [hgl] at this
          rw [show len = data.length + 2 by omega]
        have hglc := Sl.lecap ho6.sl
        have hmlc := Sl.lecap hm6.sl
        rw [List.length_append, show mk.length = 2 from rfl] at hmlc
        have gc : (if g2 = 0 then g1 else Option.map (fun x => x) g1) = g1 := by cases g1 <;> simp
        have mc : (if m1c = 0 then m1a else Option.map (fun x => x) m1a) = m1a := by cases m1a <;> simp
        have hhm : Ints H6 5 .u8 (.slice m1a head.length m1c) head := cut_ints (show Ints H6 5 .u8 (.slice m1a (head ++ mk).length m1c) (head ++ mk) from hm6.sl)
        have hdg : Lists H6 30 5 (.slice g1 data.length g2) data := ⟨cuts vs data, by
          have := cut_sl ho6.sl
          rw [hcl] at this
          exact this, cuts_ints ha6⟩
        have hdec : ∀ y ∈ data, Byt y ∧ y.length ≤ 140737488350000 := fun y hy => ⟨hby y hy, by have := hl2 y hy; omega⟩
        simp only [go_sem, ↓reduceIte, Nat.reduceEqDiff, Nat.reduceLeDiff, Nat.reduceAdd, Nat.reduceMul, Nat.reduceSub, Nat.reduceBEq, Nat.reduceGT, Nat.reduceLT, Int.reduceLE, Int.reduceLT, Int.reduceNeg, reduceCtorEq, f0, f1, f2, f7, f8, f9, gc, mc]
        refine ⟨⟨by omega, by omega⟩, ⟨by omega, by omega⟩, ?_, Ext.push _, ?_⟩
        · refine FunI.by (F20 gen _ _ head data H6 hhm hw hdg hdec (by omega)) ?_
          rintro r H7 hr
          obtain ⟨hx7, p, xs, ds, a1, b1, a2, b2, hpd, rfl, hoa, hob⟩ := decR_form hr
          simp only [go_sem, ↓reduceIte, Nat.reduceEqDiff, Nat.reduceLeDiff, Nat.reduceAdd, Nat.reduceMul, Nat.reduceSub, Nat.reduceBEq, Nat.reduceGT, Nat.reduceLT, Int.reduceLE, Int.reduceLT, Int.reduceNeg, reduceCtorEq]
          refine ⟨hx7, hx7.trans ((Ext.push _).mono hx7.size), rfl, hcan_of push_new (by simp), ?_⟩
          rw [hput_push3', f0, f1, f2]
          have kk : (H7.push (.cells #[.int .i64 p, .slice a1 xs.length a2, .slice b1 ds.length b2] 28))[H7.size]? = some (.cells #[.int .i64 p, .slice a1 xs.length a2, .slice b1 ds.length b2] 28) := push_new
          have hxK : Ext H6 (H7.push (.cells #[.int .i64 p, .slice a1 xs.length a2, .slice b1 ds.length b2] 28)) := hx7.trans ((Ext.push _).mono hx7.size)
          have hca : Ints (H7.push (.cells #[.int .i64 p, .slice a1 xs.length a2, .slice b1 ds.length b2] 28)) 3 .i64 (.slice a1 xs.length a2) xs := Sl.ext hoa.sl (Ext.push _)
          have hcb : Bls (H7.push (.cells #[.int .i64 p, .slice a1 xs.length a2, .slice b1 ds.length b2] 28)) 4 (.slice b1 ds.length b2) ds := Sl.ext hob.sl (Ext.push _)
          generalize H7.push (.cells #[.int .i64 p, .slice a1 xs.length a2, .slice b1 ds.length b2] 28) = K at *
          have hxHK : Ext H K := hxe.trans (hxK.mono hxe.size)
          refine FunI.by (F21 gen _ _ head data K (hh.ext hxHK) hw (hd.ext hxHK) hdec (by omega)) ?_
          rintro r K1 hr
          rw [rdecS_eq hw hby] at hr
          obtain ⟨hy1, p', xs', ds', a1', b1', a2', b2', hpd', rfl, hoa', hob'⟩ := decR_form hr
          rw [← hpd] at hpd'
          cases hpd'
          simp only [go_sem, ↓reduceIte, Nat.reduceEqDiff, Nat.reduceLeDiff, Nat.reduceAdd, Nat.reduceMul, Nat.reduceSub, Nat.reduceBEq, Nat.reduceGT, Nat.reduceLT, Int.reduceLE, Int.reduceLT, Int.reduceNeg, reduceCtorEq]
          refine ⟨rfl, hcan_of push_new (by simp), ?_⟩
          rw [hput_push3']
          have hy2 : Ext K1 (K1.push (.cells #[.int .i64 p, .slice a1' xs.length a2', .slice b1' ds.length b2'] 28)) := Ext.push _
          have kk2 : (K1.push (.cells #[.int .i64 p, .slice a1' xs.length a2', .slice b1' ds.length b2'] 28))[K1.size]? = some (.cells #[.int .i64 p, .slice a1' xs.length a2', .slice b1' ds.length b2'] 28) := push_new
          generalize K1.push (.cells #[.int .i64 p, .slice a1' xs.length a2', .slice b1' ds.length b2'] 28) = K2 at *
          have hyK2 : Ext K K2 := hy1.trans (hy2.mono hy1.size)
          have hx62 : Ext H6 K2 := hxK.trans (hyK2.mono hxK.size)
          have hxH2 : Ext H K2 := hxHK.trans (hyK2.mono hxHK.size)
          have kk1 := (hyK2.get _ (Array.getElem?_eq_some_iff.1 kk).1).trans kk
          have q0 : hget K2 H7.size 0 = some (.int .i64 p) := by unfold hget; rw [kk1]; rfl
          have q1 : hget K2 H7.size 1 = some (.slice a1 xs.length a2) := by unfold hget; rw [kk1]; rfl
          have q2 : hget K2 H7.size 2 = some (.slice b1 ds.length b2) := by unfold hget; rw [kk1]; rfl
          have q3 : hget K2 K1.size 0 = some (.int .i64 p) := by unfold hget; rw [kk2]; rfl
          have q4 : hget K2 K1.size 1 = some (.slice a1' xs.length a2') := by unfold hget; rw [kk2]; rfl
          have q5 : hget K2 K1.size 2 = some (.slice b1' ds.length b2') := by unfold hget; rw [kk2]; rfl
          simp only [go_sem, ↓reduceIte, Nat.reduceEqDiff, Nat.reduceLeDiff, Nat.reduceAdd, Nat.reduceMul, Nat.reduceSub, Nat.reduceBEq, Nat.reduceGT, Nat.reduceLT, Int.reduceLE, Int.reduceLT, Int.reduceNeg, reduceCtorEq, q0, q1, q2, q3, q4, q5, Option.bind_some]
          obtain ⟨sm1, sm2⟩ := decS_small hw hby hpd
          refine FunI.by (F22 _ _ p p xs xs ds ds K2 ⟨_, _, rfl, hca.ext hyK2, hcb.ext hyK2⟩ ⟨_, _, rfl, Ints.ext hoa'.sl hy2, Bls.ext hob'.sl hy2⟩ (by omega) (by omega)) ?_
          rintro _ K3 ⟨rfl, hy3⟩
          have hx63 : Ext H6 K3 := hx62.trans (hy3.mono hx62.size)
          have hxH3 : Ext H K3 := hxH2.trans (hy3.mono hxH2.size)
          have ht1 : decide (p = p ∧ xs = xs ∧ ds = ds) = true := by simp
          have hm63 : Ints K3 5 .u8 (.slice m1a (head ++ mk).length m1c) (head ++ mk) := (hm6.ext hx63).sl
          have ho63 := ho6.ext hx63
          have hs13 := hs1.ext hx63
          have hs23 := hs2.ext hx63
          obtain ⟨mb, mo, rfl⟩ := hm63.at (i := 0) (by simp [mk])
          obtain ⟨gb, go, rfl⟩ := Sl.at ho63.sl (by omega)
          have m47 : hget K3 mb (mo + head.length) = some (.int .u8 47) := by rw [hm63.get (by simp [mk])]; simp [mk, List.getD_eq_getElem?_getD]
          have m11 : hget K3 mb (mo + (head.length + 1)) = some (.int .u8 11) := by rw [hm63.get (by simp [mk])]; simp [mk, List.getD_eq_getElem?_getD]
          have e1 : hget K3 gb (go + data.length) = some (.slice (some ⟨j1, 0, none⟩) 4 4) := by
            rw [Sl.get ho63.sl (by omega), List.getElem?_append_right (by omega), hcl]
            simp
          have e2 : hget K3 gb (go + (data.length + 1)) = some (.slice (some ⟨j2, 0, none⟩) 4 4) := by
            rw [Sl.get ho63.sl (by omega), List.getElem?_append_right (by omega), hcl]
            simp
          have wh : IntKind.i64.wrap ((head.length : Int) + 1) = ((head.length + 1 : Nat) : Int) := by rw [w64_id (by omega) (by omega)]; omega
          have wd : IntKind.i64.wrap ((data.length : Int) + 1) = ((data.length + 1 : Nat) : Int) := by rw [w64_id (by omega) (by omega)]; omega
          have z0 : (0 : Int) ≤ ((head.length : Nat) : Int) := by omega
          have z1 : (0 : Int) ≤ ((head.length + 1 : Nat) : Int) := by omega
          have z2 : (0 : Int) ≤ ((data.length : Nat) : Int) := by omega
          have z3 : (0 : Int) ≤ ((data.length + 1 : Nat) : Int) := by omega
          have zl : (head ++ mk).length = head.length + 2 := by simp [mk]
          have z4 : ((head.length : Nat) : Int) < (((head ++ mk).length : Nat) : Int) := by omega
          have z5 : ((head.length + 1 : Nat) : Int) < (((head ++ mk).length : Nat) : Int) := by omega
          have z6 : ((data.length : Nat) : Int) < ((data.length + 2 : Nat) : Int) := by omega
          have z7 : ((data.length + 1 : Nat) : Int) < ((data.length + 2 : Nat) : Int) := by omega
          simp only [go_sem, ↓reduceIte, Nat.reduceEqDiff, Nat.reduceLeDiff, Nat.reduceAdd, Nat.reduceMul, Nat.reduceSub, Nat.reduceBEq, Nat.reduceGT, Nat.reduceLT, Int.reduceLE, Int.reduceLT, Int.reduceNeg, reduceCtorEq, ht1, f0, f1, f2, f7, f8, f9, wh, wd, z0, z1, z2, z3, z4, z5, z6, z7, m47, m11, e1, e2, Int.toNat_natCast]
          refine RunI.by (conv_str hs13 ty30 ty9 ty5) ?_
          rintro _ _ ⟨rfl, rfl⟩
          have t1 : ((bstr [109, 97, 114, 107]).toList == (⟨#[109, 97, 114, 107]⟩ : ByteArray).toList) = true := by rw [toList_data, toList_data]; rfl
          have t2 : ((bstr [109, 111, 114, 101]).toList == (⟨#[109, 111, 114, 101]⟩ : ByteArray).toList) = true := by rw [toList_data, toList_data]; rfl
          simp only [go_sem, ↓reduceIte, Nat.reduceEqDiff, Nat.reduceLeDiff, Nat.reduceAdd, Nat.reduceMul, Nat.reduceSub, Nat.reduceBEq, Nat.reduceGT, Nat.reduceLT, Int.reduceLE, Int.reduceLT, Int.reduceNeg, reduceCtorEq, t1, t2, f0, f1, f2, f7, f8, f9, wh, wd, z0, z1, z2, z3, z4, z5, z6, z7, m47, m11, e1, e2, Int.toNat_natCast]
          refine RunI.by (conv_str hs23 ty30 ty9 ty5) ?_
          rintro _ _ ⟨rfl, rfl⟩
          simp only [go_sem, ↓reduceIte, Nat.reduceEqDiff, Nat.reduceLeDiff, Nat.reduceAdd, Nat.reduceMul, Nat.reduceSub, Nat.reduceBEq, Nat.reduceGT, Nat.reduceLT, Int.reduceLE, Int.reduceLT, Int.reduceNeg, reduceCtorEq, t1, t2]
          have ho93 := ho9.ext hx63
          have ha63 := ha6.mono fun _ _ h => Own.ext h hx63
          have hd3 := hd.ext hxH3
          refine LoopI.by mixed (fun τ H' => ∃ i : Nat, K3 = H' ∧ τ 2 = .slice d1 data.length d2 ∧ τ 7 = .bool true ∧ τ 9 = .slice r1 data.length r2 ∧ τ 13 = .int .i64 (if (decS gen head data).isNone then 90 else 0) ∧ τ 15 = .int .i64 (if (decS gen head data).isNone then 90 else 0) ∧ τ 16 = .bool true ∧ τ 17 = .bool true ∧ τ 18 = .int .i64 i ∧ i ≤ data.length) (fun τ _ => data.length - (iof (τ 18)).toNat) ?_ ?_
          · exact ⟨0, rfl, by simp only [go_sem, ↓reduceIte, Nat.reduceEqDiff, Nat.reduceLeDiff, Nat.reduceAdd, Nat.reduceMul, Nat.reduceSub, Nat.reduceBEq, Nat.reduceGT, Nat.reduceLT, Int.reduceLE, Int.reduceLT, Int.reduceNeg, reduceCtorEq, f2], by simp only [go_sem, ↓reduceIte, Nat.reduceEqDiff, Nat.reduceLeDiff, Nat.reduceAdd, Nat.reduceMul, Nat.reduceSub, Nat.reduceBEq, Nat.reduceGT, Nat.reduceLT, Int.reduceLE, Int.reduceLT, Int.reduceNeg, reduceCtorEq, f7], by simp only [go_sem, ↓reduceIte, Nat.reduceEqDiff, Nat.reduceLeDiff, Nat.reduceAdd, Nat.reduceMul, Nat.reduceSub, Nat.reduceBEq, Nat.reduceGT, Nat.reduceLT, Int.reduceLE, Int.reduceLT, Int.reduceNeg, reduceCtorEq, f9], by simp only [go_sem, ↓reduceIte, Nat.reduceEqDiff, Nat.reduceLeDiff, Nat.reduceAdd, Nat.reduceMul, Nat.reduceSub, Nat.reduceBEq, Nat.reduceGT, Nat.reduceLT, Int.reduceLE, Int.reduceLT, Int.reduceNeg, reduceCtorEq], by simp only [go_sem, ↓reduceIte, Nat.reduceEqDiff, Nat.reduceLeDiff, Nat.reduceAdd, Nat.reduceMul, Nat.reduceSub, Nat.reduceBEq, Nat.reduceGT, Nat.reduceLT, Int.reduceLE, Int.reduceLT, Int.reduceNeg, reduceCtorEq], by simp only [go_sem, ↓reduceIte, Nat.reduceEqDiff, Nat.reduceLeDiff, Nat.reduceAdd, Nat.reduceMul, Nat.reduceSub, Nat.reduceBEq, Nat.reduceGT, Nat.reduceLT, Int.reduceLE, Int.reduceLT, Int.reduceNeg, reduceCtorEq], by simp only [go_sem, ↓reduceIte, Nat.reduceEqDiff, Nat.reduceLeDiff, Nat.reduceAdd, Nat.reduceMul, Nat.reduceSub, Nat.reduceBEq, Nat.reduceGT, Nat.reduceLT, Int.reduceLE, Int.reduceLT, Int.reduceNeg, reduceCtorEq], by simp only [go_sem, ↓reduceIte, Nat.reduceEqDiff, Nat.reduceLeDiff, Nat.reduceAdd, Nat.reduceMul, Nat.reduceSub, Nat.reduceBEq, Nat.reduceGT, Nat.reduceLT, Int.reduceLE, Int.reduceLT, Int.reduceNeg, reduceCtorEq]; rfl, by omega⟩
          rintro τ _ ⟨i, rfl, k2, k7, k9, k13, k15, k16, k17, k18, hi⟩
          by_cases hlt : i < data.length
          · have c0 : (0 : Int) ≤ i := by omega
            have c1 : (i : Int) < data.length := by omega
            obtain ⟨db, dof, rfl⟩ := hd.at hlt
            obtain ⟨y, gy, hy⟩ := hd3.get hlt
            obtain ⟨y1, y2, rfl⟩ := hy.form
            obtain ⟨rb, ro, rfl⟩ := Sl.at ho93.sl (by omega)
            obtain ⟨u, hu⟩ : ∃ u, vs[i]? = some u := ⟨_, List.getElem?_eq_getElem (by omega)⟩
            have gu : hget K3 rb (ro + i) = some u := by rw [Sl.get ho93.sl (by omega)]; exact hu
            obtain ⟨zs, hzs, hou⟩ := All2.getL' ha63 hu
            have hz : zs = data.getD i [] ++ mk := by
              rw [List.getElem?_map, List.getElem?_eq_getElem hlt] at hzs
              simp only [Option.map_some, Option.some.injEq] at hzs
              rw [← hzs]
              simp [List.getD_eq_getElem?_getD, List.getElem?_eq_getElem hlt]
            subst hz
            have hou' : Ints K3 5 .u8 u (data.getD i [] ++ mk) := hou.sl
            obtain ⟨ua, uc, rfl⟩ := hou'.form
            obtain ⟨ub, uo, rfl⟩ := hou'.at (i := 0) (by simp [mk])
            have hlen := hl2 _ (mem_getD hlt [])
            have yl : (data.getD i [] ++ mk).length = (data.getD i []).length + 2 := by simp [mk]
            have y47 : hget K3 ub (uo + (data.getD i []).length) = some (.int .u8 47) := by
              rw [hou'.get (by omega), List.getD_eq_getElem?_getD, List.getElem?_append_right (by omega)]
              simp [mk]
            have y11 : hget K3 ub (uo + ((data.getD i []).length + 1)) = some (.int .u8 11) := by
              rw [hou'.get (by omega), List.getD_eq_getElem?_getD, List.getElem?_append_right (by omega)]
              simp [mk]
            have wy : IntKind.i64.wrap (((data.getD i []).length : Int) + 1) = (((data.getD i []).length + 1 : Nat) : Int) := by rw [w64_id (by omega) (by omega)]; omega
            have v0 : (0 : Int) ≤ (((data.getD i []).length : Nat) : Int) := by omega
            have v1 : (0 : Int) ≤ (((data.getD i []).length + 1 : Nat) : Int) := by omega
            have v2 : (((data.getD i []).length : Nat) : Int) < (((data.getD i [] ++ mk).length : Nat) : Int) := by omega
            have v3 : (((data.getD i []).length + 1 : Nat) : Int) < (((data.getD i [] ++ mk).length : Nat) : Int) := by omega
            simp only [go_sem, ↓reduceIte, Nat.reduceEqDiff, Nat.reduceLeDiff, Nat.reduceAdd, Nat.reduceMul, Nat.reduceSub, Nat.reduceBEq, Nat.reduceGT, Nat.reduceLT, Int.reduceLE, Int.reduceLT, Int.reduceNeg, reduceCtorEq, c5_L1, k2, k7, k9, k13, k15, k16, k17, k18, c0, c1, gy, gu, wy, v0, v1, v2, v3, y47, y11, Int.toNat_natCast, w64_id (n := (i : Int) + 1) (by omega) (by omega)]
            exact ⟨Hold.mk ⟨i + 1, rfl, by simp only [go_sem, ↓reduceIte, Nat.reduceEqDiff, Nat.reduceLeDiff, Nat.reduceAdd, Nat.reduceMul, Nat.reduceSub, Nat.reduceBEq, Nat.reduceGT, Nat.reduceLT, Int.reduceLE, Int.reduceLT, Int.reduceNeg, reduceCtorEq, k2], by simp only [go_sem, ↓reduceIte, Nat.reduceEqDiff, Nat.reduceLeDiff, Nat.reduceAdd, Nat.reduceMul, Nat.reduceSub, Nat.reduceBEq, Nat.reduceGT, Nat.reduceLT, Int.reduceLE, Int.reduceLT, Int.reduceNeg, reduceCtorEq, k7], by simp only [go_sem, ↓reduceIte, Nat.reduceEqDiff, Nat.reduceLeDiff, Nat.reduceAdd, Nat.reduceMul, Nat.reduceSub, Nat.reduceBEq, Nat.reduceGT, Nat.reduceLT, Int.reduceLE, Int.reduceLT, Int.reduceNeg, reduceCtorEq, k9], by simp only [go_sem, ↓reduceIte, Nat.reduceEqDiff, Nat.reduceLeDiff, Nat.reduceAdd, Nat.reduceMul, Nat.reduceSub, Nat.reduceBEq, Nat.reduceGT, Nat.reduceLT, Int.reduceLE, Int.reduceLT, Int.reduceNeg, reduceCtorEq, k13], by simp only [go_sem, ↓reduceIte, Nat.reduceEqDiff, Nat.reduceLeDiff, Nat.reduceAdd, Nat.reduceMul, Nat.reduceSub, Nat.reduceBEq, Nat.reduceGT, Nat.reduceLT, Int.reduceLE, Int.reduceLT, Int.reduceNeg, reduceCtorEq, k15], by simp only [go_sem, ↓reduceIte, Nat.reduceEqDiff, Nat.reduceLeDiff, Nat.reduceAdd, Nat.reduceMul, Nat.reduceSub, Nat.reduceBEq, Nat.reduceGT, Nat.reduceLT, Int.reduceLE, Int.reduceLT, Int.reduceNeg, reduceCtorEq, k16], by simp only [go_sem, ↓reduceIte, Nat.reduceEqDiff, Nat.reduceLeDiff, Nat.reduceAdd, Nat.reduceMul, Nat.reduceSub, Nat.reduceBEq, Nat.reduceGT, Nat.reduceLT, Int.reduceLE, Int.reduceLT, Int.reduceNeg, reduceCtorEq], by simp only [go_sem, ↓reduceIte, Nat.reduceEqDiff, Nat.reduceLeDiff, Nat.reduceAdd, Nat.reduceMul, Nat.reduceSub, Nat.reduceBEq, Nat.reduceGT, Nat.reduceLT, Int.reduceLE, Int.reduceLT, Int.reduceNeg, reduceCtorEq]; rfl, by omega⟩, by omega⟩
          · have c1 : ¬ (i : Int) < data.length := by omega
            simp only [go_sem, ↓reduceIte, Nat.reduceEqDiff, Nat.reduceLeDiff, Nat.reduceAdd, Nat.reduceMul, Nat.reduceSub, Nat.reduceBEq, Nat.reduceGT, Nat.reduceLT, Int.reduceLE, Int.reduceLT, Int.reduceNeg, reduceCtorEq, c5_L1, k2, k7, k9, k13, k15, k16, k17, k18, c1]
            refine FunI.by (F16 _ K3) ?_
            rintro _ _ ⟨rfl, rfl⟩
            simp only [go_sem, ↓reduceIte, Nat.reduceEqDiff, Nat.reduceLeDiff, Nat.reduceAdd, Nat.reduceMul, Nat.reduceSub, Nat.reduceBEq, Nat.reduceGT, Nat.reduceLT, Int.reduceLE, Int.reduceLT, Int.reduceNeg, reduceCtorEq, k15, decide_true]
            exact hxH3
        · refine FunI.by (F20 gen _ _ head data _ (hhm.ext (Ext.push _)) hw (hdg.ext (Ext.push _)) hdec (by omega)) ?_
          rintro r H7 hr
          obtain ⟨hx7, p, xs, ds, a1, b1, a2, b2, hpd, rfl, hoa, hob⟩ := decR_form hr
          simp only [go_sem, ↓reduceIte, Nat.reduceEqDiff, Nat.reduceLeDiff, Nat.reduceAdd, Nat.reduceMul, Nat.reduceSub, Nat.reduceBEq, Nat.reduceGT, Nat.reduceLT, Int.reduceLE, Int.reduceLT, Int.reduceNeg, reduceCtorEq]
          have hxz : Ext H6 (H6.push (.cells #[.int .i64 0, .slice none 0 0, .slice none 0 0] 28)) := Ext.push _
          have hx67 : Ext H6 H7 := hxz.trans (hx7.mono hxz.size)
          have kz : H7[H6.size]? = some (.cells #[.int .i64 0, .slice none 0 0, .slice none 0 0] 28) := (hx7.get _ (by simp)).trans push_new
          refine ⟨hx67, rfl, hcan_of kz (by simp), ?_⟩
          rw [f0, f1, f2]
          have kk : (hput H7 H6.size 0 [.int .i64 p, .slice a1 xs.length a2, .slice b1 ds.length b2])[H6.size]? = some (.cells #[.int .i64 p, .slice a1 xs.length a2, .slice b1 ds.length b2] 28) := hput_same kz
          have hxK : Ext H6 (hput H7 H6.size 0 [.int .i64 p, .slice a1 xs.length a2, .slice b1 ds.length b2]) := hx67.hput (Nat.le_refl _)
          have hca : Ints (hput H7 H6.size 0 [.int .i64 p, .slice a1 xs.length a2, .slice b1 ds.length b2]) 3 .i64 (.slice a1 xs.length a2) xs := (hoa.keepT fun b c fr hb => hput_other _ _ _ _ (by
            rintro rfl
            rw [kz] at hb
            cases hb)).sl
          have hcb : Bls (hput H7 H6.size 0 [.int .i64 p, .slice a1 xs.length a2, .slice b1 ds.length b2]) 4 (.slice b1 ds.length b2) ds := (hob.keepT fun b c fr hb => hput_other _ _ _ _ (by
            rintro rfl
            rw [kz] at hb
            cases hb)).sl
          generalize hput H7 H6.size 0 [.int .i64 p, .slice a1 xs.length a2, .slice b1 ds.length b2] = K at *
          have hxHK : Ext H K := hxe.trans (hxK.mono hxe.size)
          refine FunI.by (F21 gen _ _ head data K (hh.ext hxHK) hw (hd.ext hxHK) hdec (by omega)) ?_
          rintro r K1 hr
          rw [rdecS_eq hw hby] at hr
          obtain ⟨hy1, p', xs', ds', a1', b1', a2', b2', hpd', rfl, hoa', hob'⟩ := decR_form hr
          rw [← hpd] at hpd'
          cases hpd'
          simp only [go_sem, ↓reduceIte, Nat.reduceEqDiff, Nat.reduceLeDiff, Nat.reduceAdd, Nat.reduceMul, Nat.reduceSub, Nat.reduceBEq, Nat.reduceGT, Nat.reduceLT, Int.reduceLE, Int.reduceLT, Int.reduceNeg, reduceCtorEq]
          refine ⟨rfl, hcan_of push_new (by simp), ?_⟩
          rw [hput_push3']
          have hy2 : Ext K1 (K1.push (.cells #[.int .i64 p, .slice a1' xs.length a2', .slice b1' ds.length b2'] 28)) := Ext.push _
          have kk2 : (K1.push (.cells #[.int .i64 p, .slice a1' xs.length a2', .slice b1' ds.length b2'] 28))[K1.size]? = some (.cells #[.int .i64 p, .slice a1' xs.length a2', .slice b1' ds.length b2'] 28) := push_new
          generalize K1.push (.cells #[.int .i64 p, .slice a1' xs.length a2', .slice b1' ds.length b2'] 28) = K2 at *
          have hyK2 : Ext K K2 := hy1.trans (hy2.mono hy1.size)
          have hx62 : Ext H6 K2 := hxK.trans (hyK2.mono hxK.size)
          have hxH2 : Ext H K2 := hxHK.trans (hyK2.mono hxHK.size)
          have kk1 := (hyK2.get _ (Array.getElem?_eq_some_iff.1 kk).1).trans kk
          have q0 : hget K2 H6.size 0 = some (.int .i64 p) := by unfold hget; rw [kk1]; rfl
          have q1 : hget K2 H6.size 1 = some (.slice a1 xs.length a2) := by unfold hget; rw [kk1]; rfl
          have q2 : hget K2 H6.size 2 = some (.slice b1 ds.length b2) := by unfold hget; rw [kk1]; rfl
          have q3 : hget K2 K1.size 0 = some (.int .i64 p) := by unfold hget; rw [kk2]; rfl
          have q4 : hget K2 K1.size 1 = some (.slice a1' xs.length a2') := by unfold hget; rw [kk2]; rfl
          have q5 : hget K2 K1.size 2 = some (.slice b1' ds.length b2') := by unfold hget; rw [kk2]; rfl
          simp only [go_sem, ↓reduceIte, Nat.reduceEqDiff, Nat.reduceLeDiff, Nat.reduceAdd, Nat.reduceMul, Nat.reduceSub, Nat.reduceBEq, Nat.reduceGT, Nat.reduceLT, Int.reduceLE, Int.reduceLT, Int.reduceNeg, reduceCtorEq, q0, q1, q2, q3, q4, q5, Option.bind_some]
          obtain ⟨sm1, sm2⟩ := decS_small hw hby hpd
          refine FunI.by (F22 _ _ p p xs xs ds ds K2 ⟨_, _, rfl, hca.ext hyK2, hcb.ext hyK2⟩ ⟨_, _, rfl, Ints.ext hoa'.sl hy2, Bls.ext hob'.sl hy2⟩ (by omega) (by omega)) ?_
          rintro _ K3 ⟨rfl, hy3⟩
          have hx63 : Ext H6 K3 := hx62.trans (hy3.mono hx62.size)
          have hxH3 : Ext H K3 := hxH2.trans (hy3.mono hxH2.size)
          have ht1 : decide (p = p ∧ xs = xs ∧ ds = ds) = true := by simp
          have hm63 : Ints K3 5 .u8 (.slice m1a (head ++ mk).length m1c) (head ++ mk) := (hm6.ext hx63).sl
          have ho63 := ho6.ext hx63
          have hs13 := hs1.ext hx63
          have hs23 := hs2.ext hx63
          obtain ⟨mb, mo, rfl⟩ := hm63.at (i := 0) (by simp [mk])
          obtain ⟨gb, go, rfl⟩ := Sl.at ho63.sl (by omega)
          have m47 : hget K3 mb (mo + head.length) = some (.int .u8 47) := by rw [hm63.get (by simp [mk])]; simp [mk, List.getD_eq_getElem?_getD]
          have m11 : hget K3 mb (mo + (head.length + 1)) = some (.int .u8 11) := by rw [hm63.get (by simp [mk])]; simp [mk, List.getD_eq_getElem?_getD]
          have e1 : hget K3 gb (go + data.length) = some (.slice (some ⟨j1, 0, none⟩) 4 4) := by
            rw [Sl.get ho63.sl (by omega), List.getElem?_append_right (by omega), hcl]
            simp
          have e2 : hget K3 gb (go + (data.length + 1)) = some (.slice (some ⟨j2, 0, none⟩) 4 4) := by
            rw [Sl.get ho63.sl (by omega), List.getElem?_append_right (by omega), hcl]
            simp
          have wh : IntKind.i64.wrap ((head.length : Int) + 1) = ((head.length + 1 : Nat) : Int) := by rw [w64_id (by omega) (by omega)]; omega
          have wd : IntKind.i64.wrap ((data.length : Int) + 1) = ((data.length + 1 : Nat) : Int) := by rw [w64_id (by omega) (by omega)]; omega
          have z0 : (0 : Int) ≤ ((head.length : Nat) : Int) := by omega
          have z1 : (0 : Int) ≤ ((head.length + 1 : Nat) : Int) := by omega
          have z2 : (0 : Int) ≤ ((data.length : Nat) : Int) := by omega
          have z3 : (0 : Int) ≤ ((data.length + 1 : Nat) : Int) := by omega
          have zl : (head ++ mk).length = head.length + 2 := by simp [mk]
          have z4 : ((head.length : Nat) : Int) < (((head ++ mk).length : Nat) : Int) := by omega
          have z5 : ((head.length + 1 : Nat) : Int) < (((head ++ mk).length : Nat) : Int) := by omega
          have z6 : ((data.length : Nat) : Int) < ((data.length + 2 : Nat) : Int) := by omega
          have z7 : ((data.length + 1 : Nat) : Int) < ((data.length + 2 : Nat) : Int) := by omega
          simp only [go_sem, ↓reduceIte, Nat.reduceEqDiff, Nat.reduceLeDiff, Nat.reduceAdd, Nat.reduceMul, Nat.reduceSub, Nat.reduceBEq, Nat.reduceGT, Nat.reduceLT, Int.reduceLE, Int.reduceLT, Int.reduceNeg, reduceCtorEq, ht1, f0, f1, f2, f7, f8, f9, wh, wd, z0, z1, z2, z3, z4, z5, z6, z7, m47, m11, e1, e2, Int.toNat_natCast]
          refine RunI.by (conv_str hs13 ty30 ty9 ty5) ?_
          rintro _ _ ⟨rfl, rfl⟩
          have t1 : ((bstr [109, 97, 114, 107]).toList == (⟨#[109, 97, 114, 107]⟩ : ByteArray).toList) = true := by rw [toList_data, toList_data]; rfl
          have t2 : ((bstr [109, 111, 114, 101]).toList == (⟨#[109, 111, 114, 101]⟩ : ByteArray).toList) = true := by rw [toList_data, toList_data]; rfl
          simp only [go_sem, ↓reduceIte, Nat.reduceEqDiff, Nat.reduceLeDiff, Nat.reduceAdd, Nat.reduceMul, Nat.reduceSub, Nat.reduceBEq, Nat.reduceGT, Nat.reduceLT, Int.reduceLE, Int.reduceLT, Int.reduceNeg, reduceCtorEq, t1, t2, f0, f1, f2, f7, f8, f9, wh, wd, z0, z1, z2, z3, z4, z5, z6, z7, m47, m11, e1, e2, Int.toNat_natCast]
          refine RunI.by (conv_str hs23 ty30 ty9 ty5) ?_
          rintro _ _ ⟨rfl, rfl⟩
          simp only [go_sem, ↓reduceIte, Nat.reduceEqDiff, Nat.reduceLeDiff, Nat.reduceAdd, Nat.reduceMul, Nat.reduceSub, Nat.reduceBEq, Nat.reduceGT, Nat.reduceLT, Int.reduceLE, Int.reduceLT, Int.reduceNeg, reduceCtorEq, t1, t2]
          have ho93 := ho9.ext hx63
          have ha63 := ha6.mono fun _ _ h => Own.ext h hx63
          have hd3 := hd.ext hxH3
          refine LoopI.by mixed (fun τ H' => ∃ i : Nat, K3 = H' ∧ τ 2 = .slice d1 data.length d2 ∧ τ 7 = .bool true ∧ τ 9 = .slice r1 data.length r2 ∧ τ 13 = .int .i64 (if (decS gen head data).isNone then 90 else 0) ∧ τ 15 = .int .i64 (if (decS gen head data).isNone then 90 else 0) ∧ τ 16 = .bool true ∧ τ 17 = .bool true ∧ τ 18 = .int .i64 i ∧ i ≤ data.length) (fun τ _ => data.length - (iof (τ 18)).toNat) ?_ ?_
          · exact ⟨0, rfl, by simp only [go_sem, ↓reduceIte, Nat.reduceEqDiff, Nat.reduceLeDiff, Nat.reduceAdd, Nat.reduceMul, Nat.reduceSub, Nat.reduceBEq, Nat.reduceGT, Nat.reduceLT, Int.reduceLE, Int.reduceLT, Int.reduceNeg, reduceCtorEq, f2], by simp only [go_sem, ↓reduceIte, Nat.reduceEqDiff, Nat.reduceLeDiff, Nat.reduceAdd, Nat.reduceMul, Nat.reduceSub, Nat.reduceBEq, Nat.reduceGT, Nat.reduceLT, Int.reduceLE, Int.reduceLT, Int.reduceNeg, reduceCtorEq, f7], by simp only [go_sem, ↓reduceIte, Nat.reduceEqDiff, Nat.reduceLeDiff, Nat.reduceAdd, Nat.reduceMul, Nat.reduceSub, Nat.reduceBEq, Nat.reduceGT, Nat.reduceLT, Int.reduceLE, Int.reduceLT, Int.reduceNeg, reduceCtorEq, f9], by simp only [go_sem, ↓reduceIte, Nat.reduceEqDiff, Nat.reduceLeDiff, Nat.reduceAdd, Nat.reduceMul, Nat.reduceSub, Nat.reduceBEq, Nat.reduceGT, Nat.reduceLT, Int.reduceLE, Int.reduceLT, Int.reduceNeg, reduceCtorEq], by simp only [go_sem, ↓reduceIte, Nat.reduceEqDiff, Nat.reduceLeDiff, Nat.reduceAdd, Nat.reduceMul, Nat.reduceSub, Nat.reduceBEq, Nat.reduceGT, Nat.reduceLT, Int.reduceLE, Int.reduceLT, Int.reduceNeg, reduceCtorEq], by simp only [go_sem, ↓reduceIte, Nat.reduceEqDiff, Nat.reduceLeDiff, Nat.reduceAdd, Nat.reduceMul, Nat.reduceSub, Nat.reduceBEq, Nat.reduceGT, Nat.reduceLT, Int.reduceLE, Int.reduceLT, Int.reduceNeg, reduceCtorEq], by simp only [go_sem, ↓reduceIte, Nat.reduceEqDiff, Nat.reduceLeDiff, Nat.reduceAdd, Nat.reduceMul, Nat.reduceSub, Nat.reduceBEq, Nat.reduceGT, Nat.reduceLT, Int.reduceLE, Int.reduceLT, Int.reduceNeg, reduceCtorEq], by simp only [go_sem, ↓reduceIte, Nat.reduceEqDiff, Nat.reduceLeDiff, Nat.reduceAdd, Nat.reduceMul, Nat.reduceSub, Nat.reduceBEq, Nat.reduceGT, Nat.reduceLT, Int.reduceLE, Int.reduceLT, Int.reduceNeg, reduceCtorEq]; rfl, by omega⟩
          rintro τ _ ⟨i, rfl, k2, k7, k9, k13, k15, k16, k17, k18, hi⟩
          by_cases hlt : i < data.length
          · have c0 : (0 : Int) ≤ i := by omega
            have c1 : (i : Int) < data.length := by omega
            obtain ⟨db, dof, rfl⟩ := hd.at hlt
            obtain ⟨y, gy, hy⟩ := hd3.get hlt
            obtain ⟨y1, y2, rfl⟩ := hy.form
            obtain ⟨rb, ro, rfl⟩ := Sl.at ho93.sl (by omega)
            obtain ⟨u, hu⟩ : ∃ u, vs[i]? = some u := ⟨_, List.getElem?_eq_getElem (by omega)⟩
            have gu : hget K3 rb (ro + i) = some u := by rw [Sl.get ho93.sl (by omega)]; exact hu
            obtain ⟨zs, hzs, hou⟩ := All2.getL' ha63 hu
            have hz : zs = data.getD i [] ++ mk := by
              rw [List.getElem?_map, List.getElem?_eq_getElem hlt] at hzs
              simp only [Option.map_some, Option.some.injEq] at hzs
              rw [← hzs]
              simp [List.getD_eq_getElem?_getD, List.getElem?_eq_getElem hlt]
            subst hz
            have hou' : Ints K3 5 .u8 u (data.getD i [] ++ mk) := hou.sl
            obtain ⟨ua, uc, rfl⟩ := hou'.form
            obtain ⟨ub, uo, rfl⟩ := hou'.at (i := 0) (by simp [mk])
            have hlen := hl2 _ (mem_getD hlt [])
            have yl : (data.getD i [] ++ mk).length = (data.getD i []).length + 2 := by simp [mk]
            have y47 : hget K3 ub (uo + (data.getD i []).length) = some (.int .u8 47) := by
              rw [hou'.get (by omega), List.getD_eq_getElem?_getD, List.getElem?_append_right (by omega)]
              simp [mk]
            have y11 : hget K3 ub (uo + ((data.getD i []).length + 1)) = some (.int .u8 11) := by
              rw [hou'.get (by omega), List.getD_eq_getElem?_getD, List.getElem?_append_right (by omega)]
              simp [mk]
            have wy : IntKind.i64.wrap (((data.getD i []).length : Int) + 1) = (((data.getD i []).length + 1 : Nat) : Int) := by rw [w64_id (by omega) (by omega)]; omega
            have v0 : (0 : Int) ≤ (((data.getD i []).length : Nat) : Int) := by omega
            have v1 : (0 : Int) ≤ (((data.getD i []).length + 1 : Nat) : Int) := by omega
            have v2 : (((data.getD i []).length : Nat) : Int) < (((data.getD i [] ++ mk).length : Nat) : Int) := by omega
            have v3 : (((data.getD i []).length + 1 : Nat) : Int) < (((data.getD i [] ++ mk).length : Nat) : Int) := by omega
            simp only [go_sem, ↓reduceIte, Nat.reduceEqDiff, Nat.reduceLeDiff, Nat.reduceAdd, Nat.reduceMul, Nat.reduceSub, Nat.reduceBEq, Nat.reduceGT, Nat.reduceLT, Int.reduceLE, Int.reduceLT, Int.reduceNeg, reduceCtorEq, c5_L1, k2, k7, k9, k13, k15, k16, k17, k18, c0, c1, gy, gu, wy, v0, v1, v2, v3, y47, y11, Int.toNat_natCast, w64_id (n := (i : Int) + 1) (by omega) (by omega)]
            exact ⟨Hold.mk ⟨i + 1, rfl, by simp only [go_sem, ↓reduceIte, Nat.reduceEqDiff, Nat.reduceLeDiff, Nat.reduceAdd, Nat.reduceMul, Nat.reduceSub, Nat.reduceBEq, Nat.reduceGT, Nat.reduceLT, Int.reduceLE, Int.reduceLT, Int.reduceNeg, reduceCtorEq, k2], by simp only [go_sem, ↓reduceIte, Nat.reduceEqDiff, Nat.reduceLeDiff, Nat.reduceAdd, Nat.reduceMul, Nat.reduceSub, Nat.reduceBEq, Nat.reduceGT, Nat.reduceLT, Int.reduceLE, Int.reduceLT, Int.reduceNeg, reduceCtorEq, k7], by simp only [go_sem, ↓reduceIte, Nat.reduceEqDiff, Nat.reduceLeDiff, Nat.reduceAdd, Nat.reduceMul, Nat.reduceSub, Nat.reduceBEq, Nat.reduceGT, Nat.reduceLT, Int.reduceLE, Int.reduceLT, Int.reduceNeg, reduceCtorEq, k9], by simp only [go_sem, ↓reduceIte, Nat.reduceEqDiff, Nat.reduceLeDiff, Nat.reduceAdd, Nat.reduceMul, Nat.reduceSub, Nat.reduceBEq, Nat.reduceGT, Nat.reduceLT, Int.reduceLE, Int.reduceLT, Int.reduceNeg, reduceCtorEq, k13], by simp only [go_sem, ↓reduceIte, Nat.reduceEqDiff, Nat.reduceLeDiff, Nat.reduceAdd, Nat.reduceMul, Nat.reduceSub, Nat.reduceBEq, Nat.reduceGT, Nat.reduceLT, Int.reduceLE, Int.reduceLT, Int.reduceNeg, reduceCtorEq, k15], by simp only [go_sem, ↓reduceIte, Nat.reduceEqDiff, Nat.reduceLeDiff, Nat.reduceAdd, Nat.reduceMul, Nat.reduceSub, Nat.reduceBEq, Nat.reduceGT, Nat.reduceLT, Int.reduceLE, Int.reduceLT, Int.reduceNeg, reduceCtorEq, k16], by simp only [go_sem, ↓reduceIte, Nat.reduceEqDiff, Nat.reduceLeDiff, Nat.reduceAdd, Nat.reduceMul, Nat.reduceSub, Nat.reduceBEq, Nat.reduceGT, Nat.reduceLT, Int.reduceLE, Int.reduceLT, Int.reduceNeg, reduceCtorEq], by simp only [go_sem, ↓reduceIte, Nat.reduceEqDiff, Nat.reduceLeDiff, Nat.reduceAdd, Nat.reduceMul, Nat.reduceSub, Nat.reduceBEq, Nat.reduceGT, Nat.reduceLT, Int.reduceLE, Int.reduceLT, Int.reduceNeg, reduceCtorEq]; rfl, by omega⟩, by omega⟩
          · have c1 : ¬ (i : Int) < data.length := by omega
            simp only [go_sem, ↓reduceIte, Nat.reduceEqDiff, Nat.reduceLeDiff, Nat.reduceAdd, Nat.reduceMul, Nat.reduceSub, Nat.reduceBEq, Nat.reduceGT, Nat.reduceLT, Int.reduceLE, Int.reduceLT, Int.reduceNeg, reduceCtorEq, c5_L1, k2, k7, k9, k13, k15, k16, k17, k18, c1]
            refine FunI.by (F16 _ K3) ?_
            rintro _ _ ⟨rfl, rfl⟩
            simp only [go_sem, ↓reduceIte, Nat.reduceEqDiff, Nat.reduceLeDiff, Nat.reduceAdd, Nat.reduceMul, Nat.reduceSub, Nat.reduceBEq, Nat.reduceGT, Nat.reduceLT, Int.reduceLE, Int.reduceLT, Int.reduceNeg, reduceCtorEq, k15, decide_true]
            exact hxH3
  · have hshd := decide_eq_false hsh
    simp only [go_sem, ↓reduceIte, Nat.reduceEqDiff, Nat.reduceLeDiff, Nat.reduceAdd, Nat.reduceMul, Nat.reduceSub, Nat.reduceBEq, Nat.reduceGT, Nat.reduceLT, Int.reduceLE, Int.reduceLT, Int.reduceNeg, reduceCtorEq, hshd]
    exact hx1
end Go.Proofs.YtbdclcdoiabapaaDoor
