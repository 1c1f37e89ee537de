/- The reference reading of estimates: numbers off the payloads until there are enough; whatever the payloads hold. -/
import Derived.Test.YtbdclcdoiabapaaDoorVDec
set_option linter.unusedSimpArgs false
set_option linter.unusedVariables false
namespace Go.Proofs.YtbdclcdoiabapaaDoor
open Go Go.V
-- 47: pith/pithref1.NewReader
-- 48: (*pith/pithref1.Reader).Int
-- 49: (*pith/pithref1.Reader).Err
-- 36: pith/pithref18.estimates
-- 5: uint8
-- 30: []uint8
-- 31: [][]uint8
-- 86: pith/pithref1.Reader
-- 25: []int
-- 3: int

def espec : Nat → List (List Int) → Option (List Int × List (List Int))
  | 0, l => some ([], l)
  | _ + 1, [] => none
  | n + 1, xs :: l => if (rdN xs (min 200 (n + 1))).2.2 = 0 then (espec (n + 1 - min 200 (n + 1)) l).map fun r => ((rdN xs (min 200 (n + 1))).1 ++ r.1, r.2) else none
theorem espec_zero {l : List (List Int)} : espec 0 l = some ([], l) := by cases l <;> rfl
theorem espec_cons {n : Nat} {xs : List Int} {l : List (List Int)} (h : 0 < n) : espec n (xs :: l) = if (rdN xs (min 200 n)).2.2 = 0 then (espec (n - min 200 n) l).map fun r => ((rdN xs (min 200 n)).1 ++ r.1, r.2) else none := by
  cases n with
  | zero => omega
  | succ n => rfl
theorem espec_nil {n : Nat} (h : 0 < n) : espec n [] = none := by
  cases n with
  | zero => omega
  | succ n => rfl
/-- An error stays. -/
theorem rdN_err {xs : List Int} {i : Nat} (h : (rdN xs i).2.2 ≠ 0) : ∀ j, (rdN xs (i + j)).2.2 ≠ 0
  | 0 => h
  | j + 1 => by
    have ih := rdN_err h j
    rw [← Nat.add_assoc]
    simp only [rdN, rstep, if_neg ih]
    exact ih
theorem Rdr.keep' {H H' : Heap} {B : Nat} {v : Value} {xs : List Int} {s : Nat × Int} (h : Rdr H B 86 v xs s) (hs : ∀ b, b < H.size → (∃ c e fr, H[b]? = some (.cells c e fr) ∧ e ≠ 3) → H'[b]? = H[b]?) : Rdr H' B 86 v xs s := by
  obtain ⟨b, u, h1, h2, h3, h4, h5⟩ := h
  exact ⟨b, u, h1, h2, (hs b (Array.getElem?_eq_some_iff.1 h3).1 ⟨_, _, _, h3, by decide⟩).trans h3, h4.keepT fun k c fr hk => hs k (Array.getElem?_eq_some_iff.1 hk).1 ⟨_, _, _, hk, by decide⟩, h5⟩

set_option maxHeartbeats 1600000 in
set_option maxRecDepth 20000 in
theorem F36 (n : Int) (v : Value) (ls : List (List Int)) (H0 H : Heap) (hv : Lists H0 30 5 v ls) (hx0 : Ext H0 H) (hb : ∀ xs ∈ ls, Byt xs ∧ xs.length ≤ 140737488350000) (h0 : 0 ≤ n) (h1 : n ≤ 4294967296) :
    Fun Tryd.prog 36 #[.int .i64 n, v] H (fun r H' => Ext H H' ∧ match espec n.toNat ls with
      | none => r = .tuple #[.slice none 0 0, .slice none 0 0, .bool false]
      | some (a, l) => ∃ va vl, r = .tuple #[va, vl, .bool true] ∧ Own H' H.size 3 1 va (a.map (.int .i64)) ∧ Lists H0 30 5 vl l ∧ ∀ xs ∈ l, xs ∈ ls) := by
  obtain ⟨m, rfl⟩ := Int.eq_ofNat_of_zero_le h0
  refine fun_of mixed (args := [_, _]) Tryd.func36 Tryd.ntmps36 b36 r36 rfl ?_
  simp only [go_sem, ↓reduceIte, Nat.reduceEqDiff, Nat.reduceLeDiff, Nat.reduceAdd, Nat.reduceMul, Nat.reduceSub, Nat.reduceBEq, Nat.reduceGT, Nat.reduceLT, Int.reduceLE, Int.reduceLT, Int.reduceNeg, reduceCtorEq]
  refine LoopI.by mixed (fun ρ H' => ∃ (acc : List Int) (v7 v1 : Value) (rs : List (List Int)), ρ 0 = .int .i64 m ∧ ρ 1 = v1 ∧ ρ 7 = v7 ∧ Own H' H.size 3 1 v7 (acc.map (.int .i64)) ∧ Lists H0 30 5 v1 rs ∧ (∀ xs ∈ rs, xs ∈ ls) ∧ acc.length ≤ m ∧
    espec m ls = (espec (m - acc.length) rs).map (fun r => (acc ++ r.1, r.2)) ∧ Ext H H') (fun ρ _ => slen (ρ 1)) ?_ ?_
  · exact ⟨[], _, _, ls, by simp only [go_sem, ↓reduceIte, Nat.reduceEqDiff, Nat.reduceLeDiff, Nat.reduceAdd, Nat.reduceMul, Nat.reduceSub, Nat.reduceBEq, Nat.reduceGT, Nat.reduceLT, Int.reduceLE, Int.reduceLT, Int.reduceNeg, reduceCtorEq], rfl, rfl, by simp only [go_sem, ↓reduceIte, Nat.reduceEqDiff, Nat.reduceLeDiff, Nat.reduceAdd, Nat.reduceMul, Nat.reduceSub, Nat.reduceBEq, Nat.reduceGT, Nat.reduceLT, Int.reduceLE, Int.reduceLT, Int.reduceNeg, reduceCtorEq]; exact Own.nil, by simp only [go_sem, ↓reduceIte, Nat.reduceEqDiff, Nat.reduceLeDiff, Nat.reduceAdd, Nat.reduceMul, Nat.reduceSub, Nat.reduceBEq, Nat.reduceGT, Nat.reduceLT, Int.reduceLE, Int.reduceLT, Int.reduceNeg, reduceCtorEq]; exact hv, fun _ h => h, by simp, by cases h : espec m ls <;> simp, Upto.refl _ _⟩
  rintro ρ H1 ⟨acc, v7, v1, rs, e0, e1, e7, ho, hr, hin, hal, hbs, hx⟩
  obtain ⟨r1, r2, rfl⟩ := hr.form
  obtain ⟨s1, s2, rfl⟩ := (show Ints H1 3 .i64 v7 acc from ho.sl).form
  by_cases hlt : acc.length < m
  · have c1 : (acc.length : Int) < m := by omega
    by_cases hr0 : rs.length = 0
    · have c2 : (rs.length : Int) = 0 := by omega
      have hrs : rs = [] := List.eq_nil_of_length_eq_zero hr0
      simp only [go_sem, ↓reduceIte, Nat.reduceEqDiff, Nat.reduceLeDiff, Nat.reduceAdd, Nat.reduceMul, Nat.reduceSub, Nat.reduceBEq, Nat.reduceGT, Nat.reduceLT, Int.reduceLE, Int.reduceLT, Int.reduceNeg, reduceCtorEq, c36_L1, e0, e1, e7, c1, c2]
      rw [hbs, hrs, espec_nil (by omega)]
      exact ⟨hx, trivial⟩
    · have c2 : ¬ (rs.length : Int) = 0 := by omega
      obtain ⟨rb, ro, rfl⟩ := hr.at (i := 0) (by omega)
      obtain ⟨u0, hu0, hi0⟩ := (hr.ext (hx0.trans (hx.mono hx0.size))).get (i := 0) (by omega)
      have c3 : (0 : Int) < rs.length := by omega
      rw [Nat.add_zero] at hu0
      simp only [go_sem, ↓reduceIte, Nat.reduceEqDiff, Nat.reduceLeDiff, Nat.reduceAdd, Nat.reduceMul, Nat.reduceSub, Nat.reduceBEq, Nat.reduceGT, Nat.reduceLT, Int.reduceLE, Int.reduceLT, Int.reduceNeg, reduceCtorEq, c36_L1, e0, e1, e7, c1, c2, c3, hu0, Int.toNat_zero, Nat.add_zero]
      obtain ⟨xs, hxs⟩ : ∃ xs, xs = rs.getD 0 [] := ⟨_, rfl⟩
      have hrs : rs = xs :: rs.drop 1 := by
        cases rs with
        | nil => simp at hr0
        | cons y ys => simp [hxs]
      have hxin : xs ∈ ls := hin _ (by rw [hrs]; simp)
      obtain ⟨hxw, hxl⟩ := hb _ hxin
      rw [← hxs] at hi0
      obtain ⟨k, hk⟩ : ∃ k : Nat, k = min 200 (m - acc.length) := ⟨_, rfl⟩
      have hsp := espec_cons (n := m - acc.length) (xs := xs) (l := rs.drop 1) (by omega)
      rw [← hrs, ← hk] at hsp
      refine FunI.by (F47 u0 xs H1 hi0 (by omega)) ?_
      rintro rd H2 ⟨hrd, hx2⟩
      have hrl : Lists H0 30 5 (.slice (if r2 = 1 then some ⟨rb, ro, none⟩ else some ⟨rb, ro + 1, none⟩) (rs.length - 1) (r2 - 1)) (rs.drop 1) := Lists.tail hr (by omega)
      have c4 : (1 : Int) ≤ rs.length := by omega
      simp only [go_sem, ↓reduceIte, Nat.reduceEqDiff, Nat.reduceLeDiff, Nat.reduceAdd, Nat.reduceMul, Nat.reduceSub, Nat.reduceBEq, Nat.reduceGT, Nat.reduceLT, Int.reduceLE, Int.reduceLT, Int.reduceNeg, reduceCtorEq, e0, e1, e7]
      refine LoopI.by mixed (fun σ H' => ∃ (i : Nat) (v7 : Value), σ 0 = .int .i64 m ∧ σ 1 = .slice (some ⟨rb, ro, none⟩) rs.length r2 ∧ σ 7 = v7 ∧ σ 8 = rd ∧ σ 9 = .int .i64 i ∧ i ≤ k ∧
        Own H' H.size 3 1 v7 ((acc ++ (rdN xs i).1).map (.int .i64)) ∧ Rdr H' H1.size 86 rd xs (rdN xs i).2 ∧ (rdN xs i).2.2 = 0 ∧ Ext H H') (fun σ _ => k - (iof (σ 9)).toNat) ?_ ?_
      · exact ⟨0, .slice s1 acc.length s2, by simp only [go_sem, ↓reduceIte, Nat.reduceEqDiff, Nat.reduceLeDiff, Nat.reduceAdd, Nat.reduceMul, Nat.reduceSub, Nat.reduceBEq, Nat.reduceGT, Nat.reduceLT, Int.reduceLE, Int.reduceLT, Int.reduceNeg, reduceCtorEq, e0], by simp only [go_sem, ↓reduceIte, Nat.reduceEqDiff, Nat.reduceLeDiff, Nat.reduceAdd, Nat.reduceMul, Nat.reduceSub, Nat.reduceBEq, Nat.reduceGT, Nat.reduceLT, Int.reduceLE, Int.reduceLT, Int.reduceNeg, reduceCtorEq, e1], by simp only [go_sem, ↓reduceIte, Nat.reduceEqDiff, Nat.reduceLeDiff, Nat.reduceAdd, Nat.reduceMul, Nat.reduceSub, Nat.reduceBEq, Nat.reduceGT, Nat.reduceLT, Int.reduceLE, Int.reduceLT, Int.reduceNeg, reduceCtorEq, e7], by simp only [go_sem, ↓reduceIte, Nat.reduceEqDiff, Nat.reduceLeDiff, Nat.reduceAdd, Nat.reduceMul, Nat.reduceSub, Nat.reduceBEq, Nat.reduceGT, Nat.reduceLT, Int.reduceLE, Int.reduceLT, Int.reduceNeg, reduceCtorEq], by simp only [go_sem, ↓reduceIte, Nat.reduceEqDiff, Nat.reduceLeDiff, Nat.reduceAdd, Nat.reduceMul, Nat.reduceSub, Nat.reduceBEq, Nat.reduceGT, Nat.reduceLT, Int.reduceLE, Int.reduceLT, Int.reduceNeg, reduceCtorEq]; rfl, by omega, by simpa [rdN] using ho.ext hx2, hrd, rfl, hx.trans (hx2.mono hx.size)⟩
      rintro σ H3 ⟨i, w7, f0, f1, f7, f8, f9, hi, ho3, hrd3, he3, hx3⟩
      obtain ⟨w1, w2, rfl⟩ := (show Ints H3 3 .i64 w7 _ from ho3.sl).form
      by_cases hik : i < k
      · have c5 : (i : Int) < 200 := by omega
        have c6 : (((acc ++ (rdN xs i).1).length : Nat) : Int) < m := by simp [rdN_len]; omega
        simp only [go_sem, ↓reduceIte, Nat.reduceEqDiff, Nat.reduceLeDiff, Nat.reduceAdd, Nat.reduceMul, Nat.reduceSub, Nat.reduceBEq, Nat.reduceGT, Nat.reduceLT, Int.reduceLE, Int.reduceLT, Int.reduceNeg, reduceCtorEq, c36_L0, f0, f1, f7, f8, f9, c5, c6]
        refine FunI.by (F48 H1.size rd xs _ H3 hrd3 hxw (by omega)) ?_
        rintro _ H4 ⟨rfl, hrd4, hsz4, hfr4⟩
        simp only [go_sem, ↓reduceIte, Nat.reduceEqDiff, Nat.reduceLeDiff, Nat.reduceAdd, Nat.reduceMul, Nat.reduceSub, Nat.reduceBEq, Nat.reduceGT, Nat.reduceLT, Int.reduceLE, Int.reduceLT, Int.reduceNeg, reduceCtorEq, f7, f8, f9]
        have hne : ∀ g : Nat, (∃ (c : Array Value) (fr : Nat × Nat), H3[g]? = some (Obj.cells c 3 fr)) → H4[g]? = H3[g]? := by
          rintro g ⟨c, fr, hg⟩
          refine hfr4 g ?_
          rintro rfl
          obtain ⟨b, u, hbe, _, hb3, _⟩ := hrd3
          cases hbe
          rw [hg] at hb3
          cases hb3
        have ho4 : Own H4 H.size 3 1 _ _ := ho3.keep fun g hg => hne g (by obtain ⟨_, _, c, hc⟩ := ho3.blk hg; exact ⟨c, _, hc⟩)
        have hx4 : Ext H H4 := by
          refine ⟨by rw [hsz4]; exact hx3.size, fun g hg => ?_⟩
          rw [hfr4 g ?_, hx3.get g hg]
          rintro rfl
          obtain ⟨b, u, hbe, hb1, hb3, _⟩ := hrd3
          cases hbe
          have := hx.size
          omega
        have hrd4' : Rdr H4 H1.size 86 rd xs (rdN xs (i + 1)).2 := hrd4
        refine FunI.by (F49 H1.size rd xs _ H4 hrd4') ?_
        rintro _ _ ⟨rfl, rfl⟩
        by_cases hs0 : (rdN xs (i + 1)).2.2 = 0
        · simp only [go_sem, ↓reduceIte, Nat.reduceEqDiff, Nat.reduceLeDiff, Nat.reduceAdd, Nat.reduceMul, Nat.reduceSub, Nat.reduceBEq, Nat.reduceGT, Nat.reduceLT, Int.reduceLE, Int.reduceLT, Int.reduceNeg, reduceCtorEq, hs0, f7, f8, f9]
          refine RunI.by (append_lit ty25 ty3 rfl (by decide) ho4 (ys := [.int .i64 (rval xs (rdN xs i).2)]) (m := 1) rfl rfl (n := acc.length + i + 1) (by simp [rdN_len]) (by omega) (by omega) hx4.size) ?_
          rintro w5 H5 ⟨ho5, hg5, _⟩
          simp only [go_sem, ↓reduceIte, Nat.reduceEqDiff, Nat.reduceLeDiff, Nat.reduceAdd, Nat.reduceMul, Nat.reduceSub, Nat.reduceBEq, Nat.reduceGT, Nat.reduceLT, Int.reduceLE, Int.reduceLT, Int.reduceNeg, reduceCtorEq, f9, w64_id (n := (i : Int) + 1) (by omega) (by omega)]
          refine ⟨Hold.mk ⟨i + 1, w5, by simp only [go_sem, ↓reduceIte, Nat.reduceEqDiff, Nat.reduceLeDiff, Nat.reduceAdd, Nat.reduceMul, Nat.reduceSub, Nat.reduceBEq, Nat.reduceGT, Nat.reduceLT, Int.reduceLE, Int.reduceLT, Int.reduceNeg, reduceCtorEq, f0], by simp only [go_sem, ↓reduceIte, Nat.reduceEqDiff, Nat.reduceLeDiff, Nat.reduceAdd, Nat.reduceMul, Nat.reduceSub, Nat.reduceBEq, Nat.reduceGT, Nat.reduceLT, Int.reduceLE, Int.reduceLT, Int.reduceNeg, reduceCtorEq, f1], by simp only [go_sem, ↓reduceIte, Nat.reduceEqDiff, Nat.reduceLeDiff, Nat.reduceAdd, Nat.reduceMul, Nat.reduceSub, Nat.reduceBEq, Nat.reduceGT, Nat.reduceLT, Int.reduceLE, Int.reduceLT, Int.reduceNeg, reduceCtorEq], by simp only [go_sem, ↓reduceIte, Nat.reduceEqDiff, Nat.reduceLeDiff, Nat.reduceAdd, Nat.reduceMul, Nat.reduceSub, Nat.reduceBEq, Nat.reduceGT, Nat.reduceLT, Int.reduceLE, Int.reduceLT, Int.reduceNeg, reduceCtorEq, f8], by simp only [go_sem, ↓reduceIte, Nat.reduceEqDiff, Nat.reduceLeDiff, Nat.reduceAdd, Nat.reduceMul, Nat.reduceSub, Nat.reduceBEq, Nat.reduceGT, Nat.reduceLT, Int.reduceLE, Int.reduceLT, Int.reduceNeg, reduceCtorEq]; rfl, by omega, ?_, ?_, hs0, hx4.trans (hg5.upto ho4 hx4.size)⟩, by omega⟩
          · simpa [rdN] using ho5
          · refine Rdr.keep' hrd4' fun b hb hcb => hg5.but.get b hb ?_
            intro hbl
            obtain ⟨c, e, fr, hc, hne'⟩ := hcb
            obtain ⟨_, _, c', hc'⟩ := ho4.blk hbl.symm
            rw [hc] at hc'
            cases hc'
            exact hne' rfl
        · simp only [go_sem, ↓reduceIte, Nat.reduceEqDiff, Nat.reduceLeDiff, Nat.reduceAdd, Nat.reduceMul, Nat.reduceSub, Nat.reduceBEq, Nat.reduceGT, Nat.reduceLT, Int.reduceLE, Int.reduceLT, Int.reduceNeg, reduceCtorEq, hs0]
          have hend : (rdN xs k).2.2 ≠ 0 := by
            have := rdN_err hs0 (k - (i + 1))
            rwa [show i + 1 + (k - (i + 1)) = k by omega] at this
          rw [if_neg hend] at hsp
          rw [hbs, hsp]
          exact ⟨hx4, trivial⟩
      · have hik' : i = k := by omega
        subst hik'
        rw [if_pos he3] at hsp
        by_cases c5 : (i : Int) < 200
        · have c6 : ¬ (((acc ++ (rdN xs i).1).length : Nat) : Int) < m := by simp [rdN_len]; omega
          simp only [go_sem, ↓reduceIte, Nat.reduceEqDiff, Nat.reduceLeDiff, Nat.reduceAdd, Nat.reduceMul, Nat.reduceSub, Nat.reduceBEq, Nat.reduceGT, Nat.reduceLT, Int.reduceLE, Int.reduceLT, Int.reduceNeg, reduceCtorEq, c36_L0, f0, f1, f7, f8, f9, c5, c6, c4, Int.toNat_one]
          refine ⟨Hold.mk ⟨acc ++ (rdN xs i).1, _, _, rs.drop 1, by simp only [go_sem, ↓reduceIte, Nat.reduceEqDiff, Nat.reduceLeDiff, Nat.reduceAdd, Nat.reduceMul, Nat.reduceSub, Nat.reduceBEq, Nat.reduceGT, Nat.reduceLT, Int.reduceLE, Int.reduceLT, Int.reduceNeg, reduceCtorEq, f0], by simp only [go_sem, ↓reduceIte, Nat.reduceEqDiff, Nat.reduceLeDiff, Nat.reduceAdd, Nat.reduceMul, Nat.reduceSub, Nat.reduceBEq, Nat.reduceGT, Nat.reduceLT, Int.reduceLE, Int.reduceLT, Int.reduceNeg, reduceCtorEq], by simp only [go_sem, ↓reduceIte, Nat.reduceEqDiff, Nat.reduceLeDiff, Nat.reduceAdd, Nat.reduceMul, Nat.reduceSub, Nat.reduceBEq, Nat.reduceGT, Nat.reduceLT, Int.reduceLE, Int.reduceLT, Int.reduceNeg, reduceCtorEq, f7], ho3, hrl, fun y hy => hin y (List.mem_of_mem_drop hy), ?_, ?_, hx3⟩, ?_⟩
          · simp [rdN_len]; omega
          · rw [hbs, hsp]
            simp only [List.length_append, rdN_len, Option.map_map]
            rw [show m - (acc.length + i) = m - acc.length - i by omega]
            congr 1
            funext r
            simp
          · rw [e1]
            simp only [slen]
            omega
        · simp only [go_sem, ↓reduceIte, Nat.reduceEqDiff, Nat.reduceLeDiff, Nat.reduceAdd, Nat.reduceMul, Nat.reduceSub, Nat.reduceBEq, Nat.reduceGT, Nat.reduceLT, Int.reduceLE, Int.reduceLT, Int.reduceNeg, reduceCtorEq, c36_L0, f0, f1, f7, f8, f9, c5, c4, Int.toNat_one]
          refine ⟨Hold.mk ⟨acc ++ (rdN xs i).1, _, _, rs.drop 1, by simp only [go_sem, ↓reduceIte, Nat.reduceEqDiff, Nat.reduceLeDiff, Nat.reduceAdd, Nat.reduceMul, Nat.reduceSub, Nat.reduceBEq, Nat.reduceGT, Nat.reduceLT, Int.reduceLE, Int.reduceLT, Int.reduceNeg, reduceCtorEq, f0], by simp only [go_sem, ↓reduceIte, Nat.reduceEqDiff, Nat.reduceLeDiff, Nat.reduceAdd, Nat.reduceMul, Nat.reduceSub, Nat.reduceBEq, Nat.reduceGT, Nat.reduceLT, Int.reduceLE, Int.reduceLT, Int.reduceNeg, reduceCtorEq], by simp only [go_sem, ↓reduceIte, Nat.reduceEqDiff, Nat.reduceLeDiff, Nat.reduceAdd, Nat.reduceMul, Nat.reduceSub, Nat.reduceBEq, Nat.reduceGT, Nat.reduceLT, Int.reduceLE, Int.reduceLT, Int.reduceNeg, reduceCtorEq, f7], ho3, hrl, fun y hy => hin y (List.mem_of_mem_drop hy), ?_, ?_, hx3⟩, ?_⟩
          · simp [rdN_len]; omega
          · rw [hbs, hsp]
            simp only [List.length_append, rdN_len, Option.map_map]
            rw [show m - (acc.length + i) = m - acc.length - i by omega]
            congr 1
            funext r
            simp
          · rw [e1]
            simp only [slen]
            omega
  · have c1 : ¬ (acc.length : Int) < m := by omega
    have hm : m - acc.length = 0 := by omega
    simp only [go_sem, ↓reduceIte, Nat.reduceEqDiff, Nat.reduceLeDiff, Nat.reduceAdd, Nat.reduceMul, Nat.reduceSub, Nat.reduceBEq, Nat.reduceGT, Nat.reduceLT, Int.reduceLE, Int.reduceLT, Int.reduceNeg, reduceCtorEq, c36_L1, e0, e1, e7, c1]
    rw [hbs, hm, espec_zero]
    exact ⟨hx, _, _, rfl, by simpa using ho, hr, hin⟩
end Go.Proofs.YtbdclcdoiabapaaDoor
