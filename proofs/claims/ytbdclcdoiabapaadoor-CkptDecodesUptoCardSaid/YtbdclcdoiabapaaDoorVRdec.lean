/- The reference decoder of checkpoints answers what rdecS says, for any head and payloads, and leaves all that there was. -/
import Derived.Test.YtbdclcdoiabapaaDoorVRest
import Derived.Test.YtbdclcdoiabapaaDoorVLawA
set_option linter.unusedSimpArgs false
set_option linter.unusedVariables false
namespace Go.Proofs.YtbdclcdoiabapaaDoor
open Go Go.V
-- 21: pith/pithref18.Decode
-- 13: pith/pithref18.Encode
-- 36: pith/pithref18.estimates
-- 35: pith/pithref18.number
-- 14: pith/pithref.SameBytes
-- 15: pith/pithref.SameByteLists
-- 5: uint8
-- 30: []uint8
-- 31: [][]uint8
-- 4: bool
-- 26: []bool
-- 3: int
-- 28: pith/api.Check

/-- The bits that the last payload is read as. -/
def bitsOf (l : List (List Int)) : List Bool := (l.getD 0 []).map fun x => decide (x = 1)
/-- What the reference Decode answers. -/
def rdecS (id : Int) (head : List Int) (data : List (List Int)) : Option (Int × List Int × List Bool) :=
  if head.length = 16 ∧ be head 8 ≤ 16777216 ∧ be head 12 ≤ 1000 ∧ be head 8 ≤ data.length * 200 then
    match espec (be head 8).toNat data with
    | none => none
    | some (xs, l) => if l.length ≤ 1 ∧ mayC id (be head 4) xs (bitsOf l) = true ∧ chkHead id (be head 4) xs (bitsOf l) = head ∧ chkData xs (bitsOf l) = data ∧ be head 12 = (bitsOf l).length then some (be head 4, xs, bitsOf l) else none
  else none

theorem espec_len : ∀ (l : List (List Int)) (n : Nat) {xs : List Int} {r : List (List Int)}, espec n l = some (xs, r) → xs.length = n
  | _, 0, xs, r, h => by rw [espec_zero] at h; cases h; rfl
  | [], n + 1, xs, r, h => by rw [espec_nil (by omega)] at h; cases h
  | y :: l, n + 1, xs, r, h => by
    rw [espec_cons (by omega)] at h
    split at h
    · obtain ⟨q, hq, he⟩ := Option.map_eq_some_iff.1 h
      have := espec_len l _ (xs := q.1) (r := q.2) hq
      cases he
      rw [List.length_append, rdN_len, this]
      omega
    · cases h
theorem take4 {xs : List Int} {l : Nat} (h : l + 4 ≤ xs.length) : (xs.drop l).take 4 = [xs.getD l 0, xs.getD (l + 1) 0, xs.getD (l + 2) 0, xs.getD (l + 3) 0] := by
  apply List.ext_getElem?
  intro i
  rw [List.getElem?_take]
  split
  · rename_i hi
    have : i = 0 ∨ i = 1 ∨ i = 2 ∨ i = 3 := by omega
    have g : ∀ j, j < xs.length → xs[j]? = some (xs.getD j 0) := fun j hj => by rw [List.getD_eq_getElem?_getD, List.getElem?_eq_getElem hj]; rfl
    rcases this with rfl | rfl | rfl | rfl <;> simp only [List.getElem?_drop, List.getElem?_cons_zero, List.getElem?_cons_succ] <;> exact g _ (by omega)
  · rw [List.getElem?_eq_none]
    simp; omega
theorem ints_four {H : Heap} {e : TypeId} {k : IntKind} {a : Option Addr} {len cap : Nat} {xs : List Int} (hh : Ints H e k (.slice a len cap) xs) {l : Nat} (h : l + 4 ≤ len) (h0 : l ≠ 0) :
    Ints H e k (.slice (if cap = l then a else a.map fun x => { block := x.block, off := x.off + l }) 4 (cap - l)) [xs.getD l 0, xs.getD (l + 1) 0, xs.getD (l + 2) 0, xs.getD (l + 3) 0] := by
  have hl := hh.length
  have h1 := Sl.sub (l := l) (h := l + 4) (m := cap) hh (by omega) h (by have := Sl.lecap hh; omega)
  rw [Nat.mul_one, Nat.mul_one, Nat.add_sub_cancel_left, ← List.map_drop, ← List.map_take, take4 (by omega)] at h1
  have e1 : (fun x : Addr => x.add l) = fun x => { block := x.block, off := x.off + l } := by
    funext x
    rw [Addr.add, if_neg h0]
  rw [e1] at h1
  exact h1
theorem bef {xs : List Int} (l : Nat) : xs.getD l 0 * 16777216 + xs.getD (l + 1) 0 * 65536 + xs.getD (l + 2) 0 * 256 + xs.getD (l + 3) 0 = be xs l := rfl
theorem byt4 {xs : List Int} (hw : Byt xs) {l : Nat} (h : l + 4 ≤ xs.length) : Byt [xs.getD l 0, xs.getD (l + 1) 0, xs.getD (l + 2) 0, xs.getD (l + 3) 0] := by
  rw [← take4 h]
  exact fun x hx => hw x (List.mem_of_mem_drop (List.mem_of_mem_take hx))

set_option maxHeartbeats 3200000 in
set_option maxRecDepth 20000 in
theorem F21 (id : Int) (vh vd : Value) (head : List Int) (data : List (List Int)) (H : Heap) (hh : Ints H 5 .u8 vh head) (hw : Byt head) (hd : Lists H 30 5 vd data) (hb : ∀ xs ∈ data, Byt xs ∧ xs.length ≤ 140737488350000) (hl : data.length ≤ 1000000000) :
    Fun Tryd.prog 21 #[.int .i64 id, vh, vd] H (decR H (rdecS id head data)) := by
  obtain ⟨d1, d2, rfl⟩ := hd.form
  obtain ⟨a1, a2, rfl⟩ := hh.form
  refine fun_of mixed (args := [_, _, _]) Tryd.func21 Tryd.ntmps21 b21 r21 rfl ?_
  have bad : ∀ {H' : Heap}, (∃ c, H'[H.size]? = some (.cells c 28) ∧ c.size = 3) → Ext H H' → rdecS id head data = none →
      hcan H' H.size 0 3 ∧ loadV (tyOf Tryd.prog) 28 (.pointer (some ⟨H.size, 0, none⟩)) (hput H' H.size 0 [.int .i64 0, .slice none 0 0, .slice none 0 0]) fun v =>
        decR H (rdecS id head data) (.tuple #[v, .int .i64 90]) (hput H' H.size 0 [.int .i64 0, .slice none 0 0, .slice none 0 0]) := by
    rintro H' ⟨c, hc, hs⟩ hx hn
    refine ⟨hcan_of hc (by omega), ?_⟩
    rw [hn]
    simp only [loadV, ty28]
    exact ⟨_, hgets_put hc (by simp [hs]) rfl, hx.hput (Nat.le_refl _), rfl⟩
  have rH : ∃ c, (H.push (.cells #[.int .i64 0, .slice none 0 0, .slice none 0 0] 28))[H.size]? = some (.cells c 28) ∧ c.size = 3 := ⟨_, push_new, rfl⟩
  have hx0 : Ext H (H.push (.cells #[.int .i64 0, .slice none 0 0, .slice none 0 0] 28)) := Ext.push _
  by_cases h16 : head.length = 16
  · have c16 : (head.length : Int) = 16 := by omega
    have hlc := hh.lecap
    simp only [go_sem, ↓reduceIte, Nat.reduceEqDiff, Nat.reduceLeDiff, Nat.reduceAdd, Nat.reduceMul, Nat.reduceSub, Nat.reduceBEq, Nat.reduceGT, Nat.reduceLT, Int.reduceLE, Int.reduceLT, Int.reduceNeg, reduceCtorEq, c16, show Int.toNat 8 = 8 from rfl, show Int.toNat 12 = 12 from rfl, show Int.toNat 16 = 16 from rfl, show Int.toNat 4 = 4 from rfl]
    refine ⟨by omega, FunI.by (F35 _ _ _ _ _ _ _ ((ints_four hh (l := 8) (by omega) (by omega)).ext hx0) rfl (byt4 hw (by omega))) ?_⟩
    rintro _ _ ⟨rfl, rfl⟩
    rw [bef 8]
    simp only [go_sem, ↓reduceIte, Nat.reduceEqDiff, Nat.reduceLeDiff, Nat.reduceAdd, Nat.reduceMul, Nat.reduceSub, Nat.reduceBEq, Nat.reduceGT, Nat.reduceLT, Int.reduceLE, Int.reduceLT, Int.reduceNeg, reduceCtorEq, show Int.toNat 8 = 8 from rfl, show Int.toNat 12 = 12 from rfl, show Int.toNat 16 = 16 from rfl, show Int.toNat 4 = 4 from rfl]
    refine ⟨by omega, FunI.by (F35 _ _ _ _ _ _ _ ((ints_four hh (l := 12) (by omega) (by omega)).ext hx0) rfl (byt4 hw (by omega))) ?_⟩
    rintro _ _ ⟨rfl, rfl⟩
    rw [bef 12]
    have b0 := be_lt hw (i := 0) (by omega)
    have b1 := be_lt hw (i := 4) (by omega)
    have b2 := be_lt hw (i := 8) (by omega)
    have b3 := be_lt hw (i := 12) (by omega)
    have w1 : IntKind.i64.wrap (200 * (data.length : Int)) = (data.length : Int) * 200 := by rw [w64_id (by omega) (by omega)]; omega
    by_cases c1 : 16777216 < be head 8
    · simp only [go_sem, ↓reduceIte, Nat.reduceEqDiff, Nat.reduceLeDiff, Nat.reduceAdd, Nat.reduceMul, Nat.reduceSub, Nat.reduceBEq, Nat.reduceGT, Nat.reduceLT, Int.reduceLE, Int.reduceLT, Int.reduceNeg, reduceCtorEq, c1]
      exact ⟨rfl, bad rH hx0 (by unfold rdecS; rw [if_neg (by omega)])⟩
    by_cases c3 : 1000 < be head 12
    · simp only [go_sem, ↓reduceIte, Nat.reduceEqDiff, Nat.reduceLeDiff, Nat.reduceAdd, Nat.reduceMul, Nat.reduceSub, Nat.reduceBEq, Nat.reduceGT, Nat.reduceLT, Int.reduceLE, Int.reduceLT, Int.reduceNeg, reduceCtorEq, c1, c3]
      exact ⟨rfl, bad rH hx0 (by unfold rdecS; rw [if_neg (by omega)])⟩
    by_cases c2 : (data.length : Int) * 200 < be head 8
    · simp only [go_sem, ↓reduceIte, Nat.reduceEqDiff, Nat.reduceLeDiff, Nat.reduceAdd, Nat.reduceMul, Nat.reduceSub, Nat.reduceBEq, Nat.reduceGT, Nat.reduceLT, Int.reduceLE, Int.reduceLT, Int.reduceNeg, reduceCtorEq, c1, c2, c3, w1]
      exact ⟨rfl, bad rH hx0 (by unfold rdecS; rw [if_neg (by omega)])⟩
    simp only [go_sem, ↓reduceIte, Nat.reduceEqDiff, Nat.reduceLeDiff, Nat.reduceAdd, Nat.reduceMul, Nat.reduceSub, Nat.reduceBEq, Nat.reduceGT, Nat.reduceLT, Int.reduceLE, Int.reduceLT, Int.reduceNeg, reduceCtorEq, c1, c2, c3, w1]
    have hsp : rdecS id head data = match espec (be head 8).toNat data with
      | none => none
      | some (xs, l) => if l.length ≤ 1 ∧ mayC id (be head 4) xs (bitsOf l) = true ∧ chkHead id (be head 4) xs (bitsOf l) = head ∧ chkData xs (bitsOf l) = data ∧ be head 12 = (bitsOf l).length then some (be head 4, xs, bitsOf l) else none := by
      unfold rdecS
      rw [if_pos ⟨h16, by omega, by omega, by omega⟩]
    generalize H.push (.cells #[.int .i64 0, .slice none 0 0, .slice none 0 0] 28) = H1 at *
    refine FunI.by (F36 (be head 8) _ data H H1 hd hx0 hb b2.1 (by omega)) ?_
    rintro r H2 ⟨hx2, hr⟩
    have hxb : Ext H H2 := hx0.trans (hx2.mono hx0.size)
    have hs0 : H.size < H1.size := by obtain ⟨c, hc, _⟩ := rH; exact (Array.getElem?_eq_some_iff.1 hc).1
    have rH2 : ∃ c, H2[H.size]? = some (.cells c 28) ∧ c.size = 3 := by
      obtain ⟨c, hc, hs⟩ := rH
      exact ⟨c, (hx2.get _ hs0).trans hc, hs⟩
    cases hbs : espec (be head 8).toNat data with
    | none =>
      rw [hbs] at hr hsp
      subst hr
      simp only [go_sem, ↓reduceIte, Nat.reduceEqDiff, Nat.reduceLeDiff, Nat.reduceAdd, Nat.reduceMul, Nat.reduceSub, Nat.reduceBEq, Nat.reduceGT, Nat.reduceLT, Int.reduceLE, Int.reduceLT, Int.reduceNeg, reduceCtorEq]
      exact ⟨rfl, bad rH2 hxb hsp⟩
    | some q =>
      obtain ⟨xs, l⟩ := q
      rw [hbs] at hr hsp
      obtain ⟨va, vl, rfl, hova, hlvl, hlin⟩ := hr
      obtain ⟨v1, v2, rfl⟩ := (show Ints H2 3 .i64 va xs from hova.sl).form
      obtain ⟨l1, l2, rfl⟩ := hlvl.form
      by_cases cl : l.length ≤ 1
      · have cl' : ¬ (1 : Int) < l.length := by omega
        simp only [go_sem, ↓reduceIte, Nat.reduceEqDiff, Nat.reduceLeDiff, Nat.reduceAdd, Nat.reduceMul, Nat.reduceSub, Nat.reduceBEq, Nat.reduceGT, Nat.reduceLT, Int.reduceLE, Int.reduceLT, Int.reduceNeg, reduceCtorEq, cl', show Int.toNat 8 = 8 from rfl, show Int.toNat 4 = 4 from rfl]
        refine ⟨by omega, FunI.by (F35 _ _ _ _ _ _ _ ((ints_four hh (l := 4) (by omega) (by omega)).ext hxb) rfl (byt4 hw (by omega))) ?_⟩
        rintro _ _ ⟨rfl, rfl⟩
        rw [bef 4]
        have hp : hput (H2.push (.cells #[.int .i64 0, .slice none 0 0, .slice none 0 0] 28)) H2.size 0 [.int .i64 (be head 4), .slice v1 xs.length v2, .slice none 0 0] = H2.push (.cells #[.int .i64 (be head 4), .slice v1 xs.length v2, .slice none 0 0] 28) :=
          hput_push rfl
        have hxc : Ext H (H2.push (.cells #[.int .i64 (be head 4), .slice v1 xs.length v2, .slice none 0 0] 28)) := hxb.trans ((Ext.push _).mono hxb.size)
        have kC : (H2.push (.cells #[.int .i64 (be head 4), .slice v1 xs.length v2, .slice none 0 0] 28))[H2.size]? = some (.cells #[.int .i64 (be head 4), .slice v1 xs.length v2, .slice none 0 0] 28) := push_new
        have hs2 : H.size < H2.size := by obtain ⟨c, hc, _⟩ := rH2; exact (Array.getElem?_eq_some_iff.1 hc).1
        have rH3 : ∃ c, (H2.push (.cells #[.int .i64 (be head 4), .slice v1 xs.length v2, .slice none 0 0] 28))[H.size]? = some (.cells c 28) ∧ c.size = 3 := by
          obtain ⟨c, hc, hs⟩ := rH2
          exact ⟨c, (push_old hs2).trans hc, hs⟩
        have hova3 : Own (H2.push (.cells #[.int .i64 (be head 4), .slice v1 xs.length v2, .slice none 0 0] 28)) _ 3 1 _ _ := hova.push _
        by_cases cl1 : l.length = 1
        · have cl1' : (l.length : Int) = 1 := by omega
          simp only [go_sem, ↓reduceIte, Nat.reduceEqDiff, Nat.reduceLeDiff, Nat.reduceAdd, Nat.reduceMul, Nat.reduceSub, Nat.reduceBEq, Nat.reduceGT, Nat.reduceLT, Int.reduceLE, Int.reduceLT, Int.reduceNeg, reduceCtorEq, cl1', hp]
          refine ⟨rfl, hcan_of push_new (by simp), ?_⟩
          generalize H2.push (.cells #[.int .i64 (be head 4), .slice v1 xs.length v2, .slice none 0 0] 28) = H3 at *
          obtain ⟨ys, hys⟩ : ∃ ys, ys = l.getD 0 [] := ⟨_, rfl⟩
          have hyin : ys ∈ data := hlin _ (by
            cases l with
            | nil => simp at cl1
            | cons y ys => simp [hys])
          obtain ⟨hyw, hyl⟩ := hb _ hyin
          obtain ⟨lb, lo, rfl⟩ := hlvl.at (i := 0) (by omega)
          have hxl := espec_len _ _ hbs
          have hs3 : H.size ≤ H2.size := by omega
          refine LoopI.by mixed (fun σ H' => ∃ (i : Nat) (yv : Value), σ 0 = .int .i64 id ∧ σ 1 = .slice a1 head.length a2 ∧ σ 2 = .slice d1 data.length d2 ∧ σ 6 = .pointer (some ⟨H.size, 0, none⟩) ∧ σ 9 = .int .i64 (be head 12) ∧ σ 11 = .slice (some ⟨lb, lo, none⟩) l.length l2 ∧ σ 13 = .pointer (some ⟨H2.size, 0, none⟩) ∧ σ 14 = .int .i64 i ∧ i ≤ ys.length ∧
            Ext H H' ∧ H2.size < H'.size ∧ H'[H2.size]? = some (.cells #[.int .i64 (be head 4), .slice v1 xs.length v2, yv] 28) ∧ (∃ c, H'[H.size]? = some (.cells c 28) ∧ c.size = 3) ∧
            Own H' H.size 3 1 (.slice v1 xs.length v2) (xs.map (.int .i64)) ∧ Own H' H2.size 4 1 yv (((ys.take i).map fun x => decide (x = 1)).map .bool)) (fun σ _ => ys.length - (iof (σ 14)).toNat) ?_ ?_
          · exact ⟨0, .slice none 0 0, by simp only [go_sem, ↓reduceIte, Nat.reduceEqDiff, Nat.reduceLeDiff, Nat.reduceAdd, Nat.reduceMul, Nat.reduceSub, Nat.reduceBEq, Nat.reduceGT, Nat.reduceLT, Int.reduceLE, Int.reduceLT, Int.reduceNeg, reduceCtorEq], by simp only [go_sem, ↓reduceIte, Nat.reduceEqDiff, Nat.reduceLeDiff, Nat.reduceAdd, Nat.reduceMul, Nat.reduceSub, Nat.reduceBEq, Nat.reduceGT, Nat.reduceLT, Int.reduceLE, Int.reduceLT, Int.reduceNeg, reduceCtorEq], by simp only [go_sem, ↓reduceIte, Nat.reduceEqDiff, Nat.reduceLeDiff, Nat.reduceAdd, Nat.reduceMul, Nat.reduceSub, Nat.reduceBEq, Nat.reduceGT, Nat.reduceLT, Int.reduceLE, Int.reduceLT, Int.reduceNeg, reduceCtorEq], by simp only [go_sem, ↓reduceIte, Nat.reduceEqDiff, Nat.reduceLeDiff, Nat.reduceAdd, Nat.reduceMul, Nat.reduceSub, Nat.reduceBEq, Nat.reduceGT, Nat.reduceLT, Int.reduceLE, Int.reduceLT, Int.reduceNeg, reduceCtorEq], by simp only [go_sem, ↓reduceIte, Nat.reduceEqDiff, Nat.reduceLeDiff, Nat.reduceAdd, Nat.reduceMul, Nat.reduceSub, Nat.reduceBEq, Nat.reduceGT, Nat.reduceLT, Int.reduceLE, Int.reduceLT, Int.reduceNeg, reduceCtorEq], by simp only [go_sem, ↓reduceIte, Nat.reduceEqDiff, Nat.reduceLeDiff, Nat.reduceAdd, Nat.reduceMul, Nat.reduceSub, Nat.reduceBEq, Nat.reduceGT, Nat.reduceLT, Int.reduceLE, Int.reduceLT, Int.reduceNeg, reduceCtorEq], by simp only [go_sem, ↓reduceIte, Nat.reduceEqDiff, Nat.reduceLeDiff, Nat.reduceAdd, Nat.reduceMul, Nat.reduceSub, Nat.reduceBEq, Nat.reduceGT, Nat.reduceLT, Int.reduceLE, Int.reduceLT, Int.reduceNeg, reduceCtorEq], by simp only [go_sem, ↓reduceIte, Nat.reduceEqDiff, Nat.reduceLeDiff, Nat.reduceAdd, Nat.reduceMul, Nat.reduceSub, Nat.reduceBEq, Nat.reduceGT, Nat.reduceLT, Int.reduceLE, Int.reduceLT, Int.reduceNeg, reduceCtorEq]; rfl, by omega, hxc, (Array.getElem?_eq_some_iff.1 kC).1, kC, rH3, hova3.mono (by omega), by simp only [List.take_zero]; exact Own.nil⟩
          rintro σ H4 ⟨i, yv, f0, f1, f2, f6, f9, f11, f13, f14, hi, hx4, hsz4, kC4, rH4, hox4, hob4⟩
          obtain ⟨u0, hu0, hi0⟩ := (hlvl.ext hx4).get (i := 0) (by omega)
          rw [Nat.add_zero] at hu0
          rw [← hys] at hi0
          obtain ⟨u1, u2, rfl⟩ := hi0.form
          have c3 : (0 : Int) < l.length := by omega
          by_cases hlt : i < ys.length
          · have c5 : (i : Int) < ys.length := by omega
            have c0 : (0 : Int) ≤ i := by omega
            obtain ⟨ub, uo, rfl⟩ := hi0.at hlt
            have gi := hi0.get hlt
            have g2 : hget H4 H2.size 2 = some yv := by unfold hget; rw [kC4]; rfl
            simp only [go_sem, ↓reduceIte, Nat.reduceEqDiff, Nat.reduceLeDiff, Nat.reduceAdd, Nat.reduceMul, Nat.reduceSub, Nat.reduceBEq, Nat.reduceGT, Nat.reduceLT, Int.reduceLE, Int.reduceLT, Int.reduceNeg, reduceCtorEq, c21_L0, f0, f1, f2, f6, f9, f11, f13, f14, c0, c3, c5, hu0, gi, g2, Int.toNat_zero, Nat.add_zero]
            refine ⟨Ext.push _, ?_⟩
            refine RunI.by (append_lit ty26 ty4 rfl (by decide) hob4 (ys := [.bool (decide (ys.getD i 0 = 1))]) (m := 1) rfl rfl (n := i + 1) (by simp; omega) (by omega) (by omega) (by omega)) ?_
            rintro w5 H5 ⟨ho5, hg5, _⟩
            have ho6 : Own H5 H2.size 4 1 w5 (((ys.take (i + 1)).map fun x => decide (x = 1)).map .bool) := by
              rw [take_succ_getD hlt 0, List.map_append, List.map_append]
              exact ho5
            obtain ⟨p1, p2, rfl⟩ := (show Bls H5 4 w5 ((ys.take (i + 1)).map fun x => decide (x = 1)) from ho6.sl).form
            have hx5 : Upto H2.size H4 H5 := hg5.upto hob4 (by omega)
            have kC5 : H5[H2.size]? = some (.cells #[.int .i64 (be head 4), .slice v1 xs.length v2, yv] 28) := by
              rw [hg5.but.get H2.size hsz4 (fun h => ?_)]
              · exact kC4
              · obtain ⟨_, _, c', hc'⟩ := hob4.blk h.symm
                rw [kC4] at hc'
                cases hc'
            have rH5 : ∃ c, H5[H.size]? = some (.cells c 28) ∧ c.size = 3 := by
              obtain ⟨c, hc, hs⟩ := rH4
              exact ⟨c, (hx5.get _ (by omega)).trans hc, hs⟩
            have hox5 : Own H5 H.size 3 1 (.slice v1 xs.length v2) (xs.map (.int .i64)) := hox4.keepT fun b c fr hbb => hg5.but.get b (Array.getElem?_eq_some_iff.1 hbb).1 (fun h => by
              obtain ⟨_, _, c', hc'⟩ := hob4.blk h.symm
              rw [hbb] at hc'
              cases hc')
            have hxH5 : Ext H H5 := hx4.trans (hx5.mono hs3)
            simp only [go_sem, ↓reduceIte, Nat.reduceEqDiff, Nat.reduceLeDiff, Nat.reduceAdd, Nat.reduceMul, Nat.reduceSub, Nat.reduceBEq, Nat.reduceGT, Nat.reduceLT, Int.reduceLE, Int.reduceLT, Int.reduceNeg, reduceCtorEq, f13, f14, show Int.toNat 2 = 2 from rfl, w64_id (n := (i : Int) + 1) (by omega) (by omega)]
            refine ⟨rfl, hcan_of kC5 (by simp), Hold.mk ⟨i + 1, _, by simp only [go_sem, ↓reduceIte, Nat.reduceEqDiff, Nat.reduceLeDiff, Nat.reduceAdd, Nat.reduceMul, Nat.reduceSub, Nat.reduceBEq, Nat.reduceGT, Nat.reduceLT, Int.reduceLE, Int.reduceLT, Int.reduceNeg, reduceCtorEq, f0], by simp only [go_sem, ↓reduceIte, Nat.reduceEqDiff, Nat.reduceLeDiff, Nat.reduceAdd, Nat.reduceMul, Nat.reduceSub, Nat.reduceBEq, Nat.reduceGT, Nat.reduceLT, Int.reduceLE, Int.reduceLT, Int.reduceNeg, reduceCtorEq, f1], by simp only [go_sem, ↓reduceIte, Nat.reduceEqDiff, Nat.reduceLeDiff, Nat.reduceAdd, Nat.reduceMul, Nat.reduceSub, Nat.reduceBEq, Nat.reduceGT, Nat.reduceLT, Int.reduceLE, Int.reduceLT, Int.reduceNeg, reduceCtorEq, f2], by simp only [go_sem, ↓reduceIte, Nat.reduceEqDiff, Nat.reduceLeDiff, Nat.reduceAdd, Nat.reduceMul, Nat.reduceSub, Nat.reduceBEq, Nat.reduceGT, Nat.reduceLT, Int.reduceLE, Int.reduceLT, Int.reduceNeg, reduceCtorEq, f6], by simp only [go_sem, ↓reduceIte, Nat.reduceEqDiff, Nat.reduceLeDiff, Nat.reduceAdd, Nat.reduceMul, Nat.reduceSub, Nat.reduceBEq, Nat.reduceGT, Nat.reduceLT, Int.reduceLE, Int.reduceLT, Int.reduceNeg, reduceCtorEq, f9], by simp only [go_sem, ↓reduceIte, Nat.reduceEqDiff, Nat.reduceLeDiff, Nat.reduceAdd, Nat.reduceMul, Nat.reduceSub, Nat.reduceBEq, Nat.reduceGT, Nat.reduceLT, Int.reduceLE, Int.reduceLT, Int.reduceNeg, reduceCtorEq, f11], by simp only [go_sem, ↓reduceIte, Nat.reduceEqDiff, Nat.reduceLeDiff, Nat.reduceAdd, Nat.reduceMul, Nat.reduceSub, Nat.reduceBEq, Nat.reduceGT, Nat.reduceLT, Int.reduceLE, Int.reduceLT, Int.reduceNeg, reduceCtorEq, f13], by simp only [go_sem, ↓reduceIte, Nat.reduceEqDiff, Nat.reduceLeDiff, Nat.reduceAdd, Nat.reduceMul, Nat.reduceSub, Nat.reduceBEq, Nat.reduceGT, Nat.reduceLT, Int.reduceLE, Int.reduceLT, Int.reduceNeg, reduceCtorEq]; rfl, by omega, hxH5.hput hs3, ?_, hput_same kC5, ?_, ?_, ?_⟩, by omega⟩
            · rw [hput_size]
              exact Nat.lt_of_lt_of_le hsz4 hx5.size |> fun h => by first | exact h | omega
            · obtain ⟨c, hc, hs⟩ := rH5
              exact ⟨c, by rw [hput_other _ _ _ _ (by omega)]; exact hc, hs⟩
            · exact hox5.keepT fun b c fr hbb => hput_other _ _ _ _ (by
                rintro rfl
                rw [kC5] at hbb
                cases hbb)
            · exact ho6.keepT fun b c fr hbb => hput_other _ _ _ _ (by
                rintro rfl
                rw [kC5] at hbb
                cases hbb)
          · have c5 : ¬ (i : Int) < ys.length := by omega
            have hiy : i = ys.length := by omega
            subst hiy
            rw [List.take_of_length_le (Nat.le_refl _)] at hob4
            have hbe : (ys.map fun x => decide (x = 1)) = bitsOf l := by rw [hys]; rfl
            rw [hbe] at hob4
            obtain ⟨y1, y2, rfl⟩ := (show Bls H4 4 yv (bitsOf l) from hob4.sl).form
            have g0 : hget H4 H2.size 0 = some (.int .i64 (be head 4)) := by unfold hget; rw [kC4]; rfl
            have g1 : hget H4 H2.size 1 = some (.slice v1 xs.length v2) := by unfold hget; rw [kC4]; rfl
            have g2 : hget H4 H2.size 2 = some (.slice y1 (bitsOf l).length y2) := by unfold hget; rw [kC4]; rfl
            simp only [go_sem, ↓reduceIte, Nat.reduceEqDiff, Nat.reduceLeDiff, Nat.reduceAdd, Nat.reduceMul, Nat.reduceSub, Nat.reduceBEq, Nat.reduceGT, Nat.reduceLT, Int.reduceLE, Int.reduceLT, Int.reduceNeg, reduceCtorEq, c21_L0, f0, f1, f2, f6, f9, f11, f13, f14, c3, c5, hu0, g0, g1, g2, Option.bind_some, Int.toNat_zero, Nat.add_zero]
            refine FunI.by (F13 _ id (be head 4) xs (bitsOf l) H4 ⟨_, _, rfl, hox4.sl, hob4.sl⟩) ?_
            rintro r H5 ⟨hx5, hr⟩
            have hxe := hx4.trans (hx5.mono hx4.size)
            obtain ⟨h', l', rfl, hh', hl'⟩ := enc_form hr
            have hlen := data_len xs (bitsOf l)
            have hlen2 := encL_len (c := mayC id (be head 4) xs (bitsOf l)) (xs := chkData xs (bitsOf l))
            have kC5 := (hx5.get H2.size (Array.getElem?_eq_some_iff.1 kC4).1).trans kC4
            have rH5 : ∃ c, H5[H.size]? = some (.cells c 28) ∧ c.size = 3 := by
              obtain ⟨c, hc, hs⟩ := rH4
              exact ⟨c, (hx5.get _ (Array.getElem?_eq_some_iff.1 hc).1).trans hc, hs⟩
            have hox5 := hox4.ext hx5
            have hob5 := hob4.ext hx5
            simp only [go_sem, ↓reduceIte, Nat.reduceEqDiff, Nat.reduceLeDiff, Nat.reduceAdd, Nat.reduceMul, Nat.reduceSub, Nat.reduceBEq, Nat.reduceGT, Nat.reduceLT, Int.reduceLE, Int.reduceLT, Int.reduceNeg, reduceCtorEq, f0, f1, f2, f6, f9, f13]
            refine FunI.by (F14 h' _ _ head H5 hh' (hh.ext hxe) (encL_wf (head_wf _ _ _ _)) hw) ?_
            rintro _ _ ⟨rfl, rfl⟩
            simp only [go_sem, ↓reduceIte, Nat.reduceEqDiff, Nat.reduceLeDiff, Nat.reduceAdd, Nat.reduceMul, Nat.reduceSub, Nat.reduceBEq, Nat.reduceGT, Nat.reduceLT, Int.reduceLE, Int.reduceLT, Int.reduceNeg, reduceCtorEq, f0, f1, f2, f6, f9, f13]
            refine FunI.by (F15 l' _ _ data H5 hl' (hd.ext hxe) (encL_wfs (data_wf _ _)) (fun y hy => (hb y hy).1) (by omega)) ?_
            rintro _ _ ⟨rfl, rfl⟩
            have g0 : hget H5 H2.size 0 = some (.int .i64 (be head 4)) := by unfold hget; rw [kC5]; rfl
            have g1 : hget H5 H2.size 1 = some (.slice v1 xs.length v2) := by unfold hget; rw [kC5]; rfl
            have g2 : hget H5 H2.size 2 = some (.slice y1 (bitsOf l).length y2) := by unfold hget; rw [kC5]; rfl
            cases hm : mayC id (be head 4) xs (bitsOf l) with
            | false =>
              have z180 : ¬ (180 : Int) = 0 := by decide
              simp only [go_sem, ↓reduceIte, Nat.reduceEqDiff, Nat.reduceLeDiff, Nat.reduceAdd, Nat.reduceMul, Nat.reduceSub, Nat.reduceBEq, Nat.reduceGT, Nat.reduceLT, Int.reduceLE, Int.reduceLT, Int.reduceNeg, reduceCtorEq, z180, f6]
              exact ⟨rfl, bad rH5 hxe (by rw [hsp]; simp only; rw [if_neg]; rintro ⟨_, h, _⟩; rw [hm] at h; cases h)⟩
            | true =>
              simp only [encL, if_true]
              by_cases q1 : chkHead id (be head 4) xs (bitsOf l) = head
              · by_cases q2 : chkData xs (bitsOf l) = data
                · by_cases q3 : be head 12 = (bitsOf l).length
                  · have q3' : ((bitsOf l).length : Int) = be head 12 := q3.symm
                    simp only [go_sem, ↓reduceIte, Nat.reduceEqDiff, Nat.reduceLeDiff, Nat.reduceAdd, Nat.reduceMul, Nat.reduceSub, Nat.reduceBEq, Nat.reduceGT, Nat.reduceLT, Int.reduceLE, Int.reduceLT, Int.reduceNeg, reduceCtorEq, f6, f9, f13, q1, q2, q3', decide_true, g0, g1, g2, Option.bind_some]
                    obtain ⟨c6, hc6, hs6⟩ := rH5
                    refine ⟨rfl, hcan_of hc6 (by omega), ?_⟩
                    simp only [loadV, ty28]
                    refine ⟨_, hgets_put hc6 (by simp [hs6]) rfl, hxe.hput (Nat.le_refl _), ?_⟩
                    rw [hsp]
                    simp only
                    rw [if_pos ⟨cl, hm, q1, q2, q3⟩]
                    refine ⟨_, _, rfl, (hox5.keepT fun b c fr hb => hput_other _ _ _ _ ?_).mono (by omega), (hob5.keepT fun b c fr hb => hput_other _ _ _ _ ?_).mono (by omega)⟩
                    · rintro rfl
                      rw [hc6] at hb
                      cases hb
                    · rintro rfl
                      rw [hc6] at hb
                      cases hb
                  · have q3' : ¬ ((bitsOf l).length : Int) = be head 12 := fun h => q3 h.symm
                    simp only [go_sem, ↓reduceIte, Nat.reduceEqDiff, Nat.reduceLeDiff, Nat.reduceAdd, Nat.reduceMul, Nat.reduceSub, Nat.reduceBEq, Nat.reduceGT, Nat.reduceLT, Int.reduceLE, Int.reduceLT, Int.reduceNeg, reduceCtorEq, f6, f9, f13, q1, q2, q3', decide_true, g2]
                    exact ⟨rfl, bad rH5 hxe (by rw [hsp]; simp only; rw [if_neg]; rintro ⟨_, _, _, _, h⟩; exact q3 h)⟩
                · simp only [go_sem, ↓reduceIte, Nat.reduceEqDiff, Nat.reduceLeDiff, Nat.reduceAdd, Nat.reduceMul, Nat.reduceSub, Nat.reduceBEq, Nat.reduceGT, Nat.reduceLT, Int.reduceLE, Int.reduceLT, Int.reduceNeg, reduceCtorEq, f6, q1, q2, decide_true, decide_false]
                  exact ⟨rfl, bad rH5 hxe (by rw [hsp]; simp only; rw [if_neg]; rintro ⟨_, _, _, h, _⟩; exact q2 h)⟩
              · simp only [go_sem, ↓reduceIte, Nat.reduceEqDiff, Nat.reduceLeDiff, Nat.reduceAdd, Nat.reduceMul, Nat.reduceSub, Nat.reduceBEq, Nat.reduceGT, Nat.reduceLT, Int.reduceLE, Int.reduceLT, Int.reduceNeg, reduceCtorEq, f6, q1, decide_false]
                exact ⟨rfl, bad rH5 hxe (by rw [hsp]; simp only; rw [if_neg]; rintro ⟨_, _, h, _⟩; exact q1 h)⟩
        · have cl1' : ¬ (l.length : Int) = 1 := by omega
          simp only [go_sem, ↓reduceIte, Nat.reduceEqDiff, Nat.reduceLeDiff, Nat.reduceAdd, Nat.reduceMul, Nat.reduceSub, Nat.reduceBEq, Nat.reduceGT, Nat.reduceLT, Int.reduceLE, Int.reduceLT, Int.reduceNeg, reduceCtorEq, cl1', hp]
          refine ⟨rfl, hcan_of push_new (by simp), ?_⟩
          generalize H2.push (.cells #[.int .i64 (be head 4), .slice v1 xs.length v2, .slice none 0 0] 28) = H3 at *
          have hl0 : l = [] := List.eq_nil_of_length_eq_zero (by omega)
          have hbl : bitsOf l = [] := by rw [hl0]; rfl
          have hxl := espec_len _ _ hbs
          have hx4 := hxc
          have kC4 := kC
          have rH3' := rH3
          have hox4 := hova3
          have hob4 : Own H3 H.size 4 1 (.slice none 0 0) ((bitsOf l).map .bool) := by rw [hbl]; exact Own.nil
          refine FunI.by (F13 _ id (be head 4) xs (bitsOf l) H3 ⟨_, _, rfl, hox4.sl, hob4.sl⟩) ?_
          rintro r H5 ⟨hx5, hr⟩
          have hxe := hx4.trans (hx5.mono hx4.size)
          obtain ⟨h', l', rfl, hh', hl'⟩ := enc_form hr
          have hlen := data_len xs (bitsOf l)
          have hlen2 := encL_len (c := mayC id (be head 4) xs (bitsOf l)) (xs := chkData xs (bitsOf l))
          have kC5 := (hx5.get H2.size (Array.getElem?_eq_some_iff.1 kC4).1).trans kC4
          have rH5 : ∃ c, H5[H.size]? = some (.cells c 28) ∧ c.size = 3 := by
            obtain ⟨c, hc, hs⟩ := rH3
            exact ⟨c, (hx5.get _ (Array.getElem?_eq_some_iff.1 hc).1).trans hc, hs⟩
          have hox5 := hox4.ext hx5
          have hob5 := hob4.ext hx5
          simp only [go_sem, ↓reduceIte, Nat.reduceEqDiff, Nat.reduceLeDiff, Nat.reduceAdd, Nat.reduceMul, Nat.reduceSub, Nat.reduceBEq, Nat.reduceGT, Nat.reduceLT, Int.reduceLE, Int.reduceLT, Int.reduceNeg, reduceCtorEq]
          refine FunI.by (F14 h' _ _ head H5 hh' (hh.ext hxe) (encL_wf (head_wf _ _ _ _)) hw) ?_
          rintro _ _ ⟨rfl, rfl⟩
          simp only [go_sem, ↓reduceIte, Nat.reduceEqDiff, Nat.reduceLeDiff, Nat.reduceAdd, Nat.reduceMul, Nat.reduceSub, Nat.reduceBEq, Nat.reduceGT, Nat.reduceLT, Int.reduceLE, Int.reduceLT, Int.reduceNeg, reduceCtorEq]
          refine FunI.by (F15 l' _ _ data H5 hl' (hd.ext hxe) (encL_wfs (data_wf _ _)) (fun y hy => (hb y hy).1) (by omega)) ?_
          rintro _ _ ⟨rfl, rfl⟩
          have g0 : hget H5 H2.size 0 = some (.int .i64 (be head 4)) := by unfold hget; rw [kC5]; rfl
          have g1 : hget H5 H2.size 1 = some (.slice v1 xs.length v2) := by unfold hget; rw [kC5]; rfl
          have g2 : hget H5 H2.size 2 = some (.slice none 0 0) := by unfold hget; rw [kC5]; rfl
          cases hm : mayC id (be head 4) xs (bitsOf l) with
          | false =>
            have z180 : ¬ (180 : Int) = 0 := by decide
            simp only [go_sem, ↓reduceIte, Nat.reduceEqDiff, Nat.reduceLeDiff, Nat.reduceAdd, Nat.reduceMul, Nat.reduceSub, Nat.reduceBEq, Nat.reduceGT, Nat.reduceLT, Int.reduceLE, Int.reduceLT, Int.reduceNeg, reduceCtorEq, z180]
            exact ⟨rfl, bad rH5 hxe (by rw [hsp]; simp only; rw [if_neg]; rintro ⟨_, h, _⟩; rw [hm] at h; cases h)⟩
          | true =>
            simp only [encL, if_true]
            by_cases q1 : chkHead id (be head 4) xs (bitsOf l) = head
            · by_cases q2 : chkData xs (bitsOf l) = data
              · by_cases q3 : be head 12 = (bitsOf l).length
                · have q3' : ((0 : Nat) : Int) = be head 12 := by rw [q3, hbl]; rfl
                  have q3'' := hbl
                  simp only [go_sem, ↓reduceIte, Nat.reduceEqDiff, Nat.reduceLeDiff, Nat.reduceAdd, Nat.reduceMul, Nat.reduceSub, Nat.reduceBEq, Nat.reduceGT, Nat.reduceLT, Int.reduceLE, Int.reduceLT, Int.reduceNeg, reduceCtorEq, q1, q2, q3', decide_true, g0, g1, g2, Option.bind_some]
                  obtain ⟨c6, hc6, hs6⟩ := rH5
                  refine ⟨rfl, hcan_of hc6 (by omega), ?_⟩
                  simp only [loadV, ty28]
                  refine ⟨_, hgets_put hc6 (by simp [hs6]) rfl, hxe.hput (Nat.le_refl _), ?_⟩
                  rw [hsp]
                  simp only
                  rw [if_pos ⟨cl, hm, q1, q2, q3⟩]
                  refine ⟨_, _, rfl, (hox5.keepT fun b c fr hb => hput_other _ _ _ _ ?_).mono (by omega), (hob5.keepT fun b c fr hb => hput_other _ _ _ _ ?_).mono (by omega)⟩
                  · rintro rfl
                    rw [hc6] at hb
                    cases hb
                  · rintro rfl
                    rw [hc6] at hb
                    cases hb
                · have q3' : ¬ ((0 : Nat) : Int) = be head 12 := by intro h; apply q3; rw [← h, hbl]; rfl
                  simp only [go_sem, ↓reduceIte, Nat.reduceEqDiff, Nat.reduceLeDiff, Nat.reduceAdd, Nat.reduceMul, Nat.reduceSub, Nat.reduceBEq, Nat.reduceGT, Nat.reduceLT, Int.reduceLE, Int.reduceLT, Int.reduceNeg, reduceCtorEq, q1, q2, q3', decide_true, g2]
                  exact ⟨rfl, bad rH5 hxe (by rw [hsp]; simp only; rw [if_neg]; rintro ⟨_, _, _, _, h⟩; exact q3 h)⟩
              · simp only [go_sem, ↓reduceIte, Nat.reduceEqDiff, Nat.reduceLeDiff, Nat.reduceAdd, Nat.reduceMul, Nat.reduceSub, Nat.reduceBEq, Nat.reduceGT, Nat.reduceLT, Int.reduceLE, Int.reduceLT, Int.reduceNeg, reduceCtorEq, q1, q2, decide_true, decide_false]
                exact ⟨rfl, bad rH5 hxe (by rw [hsp]; simp only; rw [if_neg]; rintro ⟨_, _, _, h, _⟩; exact q2 h)⟩
            · simp only [go_sem, ↓reduceIte, Nat.reduceEqDiff, Nat.reduceLeDiff, Nat.reduceAdd, Nat.reduceMul, Nat.reduceSub, Nat.reduceBEq, Nat.reduceGT, Nat.reduceLT, Int.reduceLE, Int.reduceLT, Int.reduceNeg, reduceCtorEq, q1, decide_false]
              exact ⟨rfl, bad rH5 hxe (by rw [hsp]; simp only; rw [if_neg]; rintro ⟨_, _, h, _⟩; exact q1 h)⟩
      · have cl' : (1 : Int) < l.length := by omega
        simp only [go_sem, ↓reduceIte, Nat.reduceEqDiff, Nat.reduceLeDiff, Nat.reduceAdd, Nat.reduceMul, Nat.reduceSub, Nat.reduceBEq, Nat.reduceGT, Nat.reduceLT, Int.reduceLE, Int.reduceLT, Int.reduceNeg, reduceCtorEq, cl']
        exact ⟨rfl, bad rH2 hxb (by rw [hsp]; simp only; rw [if_neg]; exact fun h => cl h.1)⟩
  · have c16 : ¬ (head.length : Int) = 16 := by omega
    simp only [go_sem, ↓reduceIte, Nat.reduceEqDiff, Nat.reduceLeDiff, Nat.reduceAdd, Nat.reduceMul, Nat.reduceSub, Nat.reduceBEq, Nat.reduceGT, Nat.reduceLT, Int.reduceLE, Int.reduceLT, Int.reduceNeg, reduceCtorEq, c16]
    exact ⟨rfl, bad rH hx0 (by unfold rdecS; rw [if_neg (by omega)])⟩
end Go.Proofs.YtbdclcdoiabapaaDoor
