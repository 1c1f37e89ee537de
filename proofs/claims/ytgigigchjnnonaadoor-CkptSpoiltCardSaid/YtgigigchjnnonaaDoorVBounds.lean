/- ckpt.bounds: the numbers that a head announces are read off the payloads, each payload to its end; whatever the payloads hold. -/
import Derived.Test.YtgigigchjnnonaaDoorVRdr
set_option linter.unusedSimpArgs false
set_option linter.unusedVariables false
set_option maxRecDepth 20000
namespace Go.Proofs.YtgigigchjnnonaaDoor
open Go Go.V
-- 62: pith/varint.NewReader
-- 63: (*pith/varint.Reader).Int
-- 64: (*pith/varint.Reader).Err
-- 65: (*pith/varint.Reader).Left
-- 42: pith/ckpt.bounds
-- 5: uint8
-- 42: []uint8
-- 49: [][]uint8
-- 130: pith/varint.Reader
-- 22: []int
-- 3: int

/-- The first k numbers. -/
def rdN (xs : List Int) : Nat → List Int × (Nat × Int)
  | 0 => ([], (0, 0))
  | k + 1 => ((rdN xs k).1 ++ [rval xs (rdN xs k).2], rstep xs (rdN xs k).2)
theorem rdN_len (xs : List Int) : ∀ k, (rdN xs k).1.length = k
  | 0 => rfl
  | k + 1 => by simp [rdN, rdN_len xs k]
/-- All is read, and nothing was wrong. -/
def clean (xs : List Int) (s : Nat × Int) : Bool := decide (s.2 = 0 ∧ s.1 = xs.length)
def bspec : Nat → List (List Int) → Option (List Int × List (List Int))
  | 0, l => some ([], l)
  | _ + 1, [] => none
  | n + 1, xs :: l => if clean xs (rdN xs (min 200 (n + 1))).2 then (bspec (n + 1 - min 200 (n + 1)) l).map fun r => ((rdN xs (min 200 (n + 1))).1 ++ r.1, r.2) else none
theorem bspec_zero {l : List (List Int)} : bspec 0 l = some ([], l) := by cases l <;> rfl
theorem bspec_cons {n : Nat} {xs : List Int} {l : List (List Int)} (h : 0 < n) : bspec n (xs :: l) = if clean xs (rdN xs (min 200 n)).2 then (bspec (n - min 200 n) l).map fun r => ((rdN xs (min 200 n)).1 ++ r.1, r.2) else none := by
  cases n with
  | zero => omega
  | succ n => rfl
theorem bspec_nil {n : Nat} (h : 0 < n) : bspec n [] = none := by
  cases n with
  | zero => omega
  | succ n => rfl
theorem Rdr.keep {H H' : Heap} {B : Nat} {v : Value} {xs : List Int} {s : Nat × Int} (h : Rdr H B 130 v xs s) (hs : ∀ b, b < H.size → (∃ c e fr, H[b]? = some (.cells c e fr) ∧ e ≠ 3) → H'[b]? = H[b]?) : Rdr H' B 130 v xs s := by
  obtain ⟨b, u, h1, h2, h3, h4, h5⟩ := h
  exact ⟨b, u, h1, h2, (hs b (Array.getElem?_eq_some_iff.1 h3).1 ⟨_, _, _, h3, by decide⟩).trans h3, h4.keepT fun k c fr hk => hs k (Array.getElem?_eq_some_iff.1 hk).1 ⟨_, _, _, hk, by decide⟩, h5⟩

theorem Lists.tail {H : Heap} {e ee : TypeId} {b o len c : Nat} {rs : List (List Int)} (hr : Lists H e ee (.slice (some ⟨b, o, none⟩) len c) rs) (h : 1 ≤ len) :
    Lists H e ee (.slice (if c = 1 then some ⟨b, o, none⟩ else some ⟨b, o + 1, none⟩) (len - 1) (c - 1)) (rs.drop 1) := by
  obtain ⟨vs, hs, ha⟩ := hr
  have hl := hs.length
  have h2 := Sl.sub (l := 1) (h := len) (m := c) hs h (Nat.le_refl _) hs.lecap
  simp only [Nat.mul_one, Option.map_some, add_none] at h2
  rw [List.take_of_length_le (by simp; omega)] at h2
  exact ⟨_, h2, ha.drop 1⟩

set_option maxHeartbeats 1600000 in
set_option maxRecDepth 20000 in
theorem F42 (n : Int) (v : Value) (ls : List (List Int)) (H0 H : Heap) (hv : Lists H0 42 5 v ls) (hx0 : Ext H0 H) (hb : ∀ xs ∈ ls, Byt xs ∧ xs.length ≤ 140737488350000) (h0 : 0 ≤ n) (h1 : n ≤ 4294967296) :
    Fun Tryd.prog 42 #[.int .i64 n, v] H (fun r H' => Ext H H' ∧ match bspec n.toNat ls with
      | none => r = .tuple #[.slice none 0 0, .slice none 0 0, .bool false]
      | some (a, l) => ∃ va vl, r = .tuple #[va, vl, .bool true] ∧ V.Own H' H.size 3 1 va (a.map (.int .i64)) ∧ Lists H0 42 5 vl l ∧ ∀ xs ∈ l, xs ∈ ls) := by
  obtain ⟨m, rfl⟩ := Int.eq_ofNat_of_zero_le h0
  refine fun_of mixed (args := [_, _]) Tryd.func42 Tryd.ntmps42 b42 r42 rfl ?_
  simp only [go_sem, ↓reduceIte, Nat.reduceEqDiff, Nat.reduceLeDiff, Nat.reduceAdd, Nat.reduceMul, Nat.reduceSub, Nat.reduceBEq, Nat.reduceGT, Nat.reduceLT, Int.reduceLE, Int.reduceLT, Int.reduceNeg, reduceCtorEq]
  refine LoopI.by mixed (fun ρ H' => ∃ (acc : List Int) (v7 v1 : Value) (rs : List (List Int)), ρ 0 = .int .i64 m ∧ ρ 1 = v1 ∧ ρ 7 = v7 ∧ V.Own H' H.size 3 1 v7 (acc.map (.int .i64)) ∧ Lists H0 42 5 v1 rs ∧ (∀ xs ∈ rs, xs ∈ ls) ∧ acc.length ≤ m ∧
    bspec m ls = (bspec (m - acc.length) rs).map (fun r => (acc ++ r.1, r.2)) ∧ Ext H H') (fun ρ _ => slen (ρ 1)) ?_ ?_
  · exact ⟨[], _, _, ls, by simp only [go_sem, ↓reduceIte, Nat.reduceEqDiff, Nat.reduceLeDiff, Nat.reduceAdd, Nat.reduceMul, Nat.reduceSub, Nat.reduceBEq, Nat.reduceGT, Nat.reduceLT, Int.reduceLE, Int.reduceLT, Int.reduceNeg, reduceCtorEq], rfl, rfl, by simp only [go_sem, ↓reduceIte, Nat.reduceEqDiff, Nat.reduceLeDiff, Nat.reduceAdd, Nat.reduceMul, Nat.reduceSub, Nat.reduceBEq, Nat.reduceGT, Nat.reduceLT, Int.reduceLE, Int.reduceLT, Int.reduceNeg, reduceCtorEq]; exact V.Own.nil, by simp only [go_sem, ↓reduceIte, Nat.reduceEqDiff, Nat.reduceLeDiff, Nat.reduceAdd, Nat.reduceMul, Nat.reduceSub, Nat.reduceBEq, Nat.reduceGT, Nat.reduceLT, Int.reduceLE, Int.reduceLT, Int.reduceNeg, reduceCtorEq]; exact hv, fun _ h => h, by simp, by cases h : bspec m ls <;> simp, Upto.refl _ _⟩
  rintro ρ H1 ⟨acc, v7, v1, rs, e0, e1, e7, ho, hr, hin, hal, hbs, hx⟩
  obtain ⟨r1, r2, rfl⟩ := hr.form
  obtain ⟨s1, s2, rfl⟩ := (show Ints H1 3 .i64 v7 acc from ho.sl).form
  by_cases hlt : acc.length < m
  · have c1 : (acc.length : Int) < m := by omega
    by_cases hr0 : rs.length = 0
    · have c2 : (rs.length : Int) = 0 := by omega
      have hrs : rs = [] := List.eq_nil_of_length_eq_zero hr0
      simp only [go_sem, ↓reduceIte, Nat.reduceEqDiff, Nat.reduceLeDiff, Nat.reduceAdd, Nat.reduceMul, Nat.reduceSub, Nat.reduceBEq, Nat.reduceGT, Nat.reduceLT, Int.reduceLE, Int.reduceLT, Int.reduceNeg, reduceCtorEq, c42_L1, e0, e1, e7, c1, c2]
      rw [hbs, hrs, bspec_nil (by omega)]
      exact ⟨hx, trivial⟩
    · have c2 : ¬ (rs.length : Int) = 0 := by omega
      obtain ⟨rb, ro, rfl⟩ := hr.at (i := 0) (by omega)
      obtain ⟨u0, hu0, hi0⟩ := (hr.ext (hx0.trans (hx.mono hx0.size))).get (i := 0) (by omega)
      have c3 : (0 : Int) < rs.length := by omega
      rw [Nat.add_zero] at hu0
      simp only [go_sem, ↓reduceIte, Nat.reduceEqDiff, Nat.reduceLeDiff, Nat.reduceAdd, Nat.reduceMul, Nat.reduceSub, Nat.reduceBEq, Nat.reduceGT, Nat.reduceLT, Int.reduceLE, Int.reduceLT, Int.reduceNeg, reduceCtorEq, c42_L1, e0, e1, e7, c1, c2, c3, hu0, Int.toNat_zero, Nat.add_zero]
      obtain ⟨xs, hxs⟩ : ∃ xs, xs = rs.getD 0 [] := ⟨_, rfl⟩
      have hrs : rs = xs :: rs.drop 1 := by
        cases rs with
        | nil => simp at hr0
        | cons y ys => simp [hxs]
      have hxin : xs ∈ ls := hin _ (by rw [hrs]; simp)
      obtain ⟨hxw, hxl⟩ := hb _ hxin
      rw [← hxs] at hi0
      obtain ⟨k, hk⟩ : ∃ k : Nat, k = min 200 (m - acc.length) := ⟨_, rfl⟩
      have hw : IntKind.i64.wrap ((m : Int) - acc.length) = ((m - acc.length : Nat) : Int) := by rw [w64_id (by omega) (by omega)]; omega
      have hmin : (if ((m - acc.length : Nat) : Int) < 200 then ((m - acc.length : Nat) : Int) else 200) = (k : Int) := by split <;> omega
      refine FunI.by (F62 u0 xs H1 hi0 (by omega)) ?_
      rintro rd H2 ⟨hrd, hx2⟩
      have hrl : Lists H0 42 5 (.slice (if r2 = 1 then some ⟨rb, ro, none⟩ else some ⟨rb, ro + 1, none⟩) (rs.length - 1) (r2 - 1)) (rs.drop 1) := Lists.tail hr (by omega)
      have c4 : (1 : Int) ≤ rs.length := by omega
      simp only [go_sem, ↓reduceIte, Nat.reduceEqDiff, Nat.reduceLeDiff, Nat.reduceAdd, Nat.reduceMul, Nat.reduceSub, Nat.reduceBEq, Nat.reduceGT, Nat.reduceLT, Int.reduceLE, Int.reduceLT, Int.reduceNeg, reduceCtorEq, e0, e1, e7, hw, hmin, c4, Int.toNat_one]
      refine LoopI.by mixed (fun σ H' => ∃ (i : Nat) (v7 : Value), σ 0 = .int .i64 m ∧ σ 1 = .slice (if r2 = 1 then some ⟨rb, ro, none⟩ else some ⟨rb, ro + 1, none⟩) (rs.length - 1) (r2 - 1) ∧ σ 7 = v7 ∧ σ 8 = rd ∧ σ 9 = .int .i64 ((k - i : Nat) : Int) ∧ i ≤ k ∧
        V.Own H' H.size 3 1 v7 ((acc ++ (rdN xs i).1).map (.int .i64)) ∧ Rdr H' H1.size 130 rd xs (rdN xs i).2 ∧ Ext H H') (fun σ _ => (iof (σ 9)).toNat) ?_ ?_
      · exact ⟨0, .slice s1 acc.length s2, by simp only [go_sem, ↓reduceIte, Nat.reduceEqDiff, Nat.reduceLeDiff, Nat.reduceAdd, Nat.reduceMul, Nat.reduceSub, Nat.reduceBEq, Nat.reduceGT, Nat.reduceLT, Int.reduceLE, Int.reduceLT, Int.reduceNeg, reduceCtorEq, e0], by simp only [go_sem, ↓reduceIte, Nat.reduceEqDiff, Nat.reduceLeDiff, Nat.reduceAdd, Nat.reduceMul, Nat.reduceSub, Nat.reduceBEq, Nat.reduceGT, Nat.reduceLT, Int.reduceLE, Int.reduceLT, Int.reduceNeg, reduceCtorEq], by simp only [go_sem, ↓reduceIte, Nat.reduceEqDiff, Nat.reduceLeDiff, Nat.reduceAdd, Nat.reduceMul, Nat.reduceSub, Nat.reduceBEq, Nat.reduceGT, Nat.reduceLT, Int.reduceLE, Int.reduceLT, Int.reduceNeg, reduceCtorEq, e7], by simp only [go_sem, ↓reduceIte, Nat.reduceEqDiff, Nat.reduceLeDiff, Nat.reduceAdd, Nat.reduceMul, Nat.reduceSub, Nat.reduceBEq, Nat.reduceGT, Nat.reduceLT, Int.reduceLE, Int.reduceLT, Int.reduceNeg, reduceCtorEq], by simp only [go_sem, ↓reduceIte, Nat.reduceEqDiff, Nat.reduceLeDiff, Nat.reduceAdd, Nat.reduceMul, Nat.reduceSub, Nat.reduceBEq, Nat.reduceGT, Nat.reduceLT, Int.reduceLE, Int.reduceLT, Int.reduceNeg, reduceCtorEq], by omega, by simpa [rdN] using ho.ext hx2, hrd, hx.trans (hx2.mono hx.size)⟩
      rintro σ H3 ⟨i, w7, f0, f1, f7, f8, f9, hi, ho3, hrd3, hx3⟩
      obtain ⟨w1, w2, rfl⟩ := (show Ints H3 3 .i64 w7 _ from ho3.sl).form
      by_cases hik : i < k
      · have c5 : (0 : Int) < ((k - i : Nat) : Int) := by omega
        simp only [go_sem, ↓reduceIte, Nat.reduceEqDiff, Nat.reduceLeDiff, Nat.reduceAdd, Nat.reduceMul, Nat.reduceSub, Nat.reduceBEq, Nat.reduceGT, Nat.reduceLT, Int.reduceLE, Int.reduceLT, Int.reduceNeg, reduceCtorEq, c42_L0, f0, f1, f7, f8, f9, c5]
        refine FunI.by (F63 H1.size rd xs _ H3 hrd3 hxw (by omega)) ?_
        rintro _ H4 ⟨rfl, hrd4, hsz4, hfr4⟩
        simp only [go_sem, ↓reduceIte, Nat.reduceEqDiff, Nat.reduceLeDiff, Nat.reduceAdd, Nat.reduceMul, Nat.reduceSub, Nat.reduceBEq, Nat.reduceGT, Nat.reduceLT, Int.reduceLE, Int.reduceLT, Int.reduceNeg, reduceCtorEq, f7, f8, f9]
        have hne : ∀ g : Nat, (∃ (c : Array Value) (fr : Nat × Nat), H3[g]? = some (Obj.cells c 3 fr)) → H4[g]? = H3[g]? := by
          rintro g ⟨c, fr, hg⟩
          refine hfr4 g ?_
          rintro rfl
          obtain ⟨b, u, hbe, _, hb3, _⟩ := hrd3
          cases hbe
          rw [hg] at hb3
          cases hb3
        have ho4 : V.Own H4 H.size 3 1 _ _ := ho3.keep fun g hg => hne g (by obtain ⟨_, _, c, hc⟩ := ho3.blk hg; exact ⟨c, _, hc⟩)
        have hx4 : Ext H H4 := by
          refine ⟨by rw [hsz4]; exact hx3.size, fun g hg => ?_⟩
          rw [hfr4 g ?_, hx3.get g hg]
          rintro rfl
          obtain ⟨b, u, hbe, hb1, hb3, _⟩ := hrd3
          cases hbe
          have := hx.size
          omega
        refine RunI.by (append_lit ty22 ty3 rfl (by decide) ho4 (ys := [.int .i64 (rval xs (rdN xs i).2)]) (m := 1) rfl rfl (n := acc.length + i + 1) (by simp [rdN_len]) (by omega) (by omega) hx4.size) ?_
        rintro w5 H5 ⟨ho5, hg5, _⟩
        have hw1 : IntKind.i64.wrap (((k - i : Nat) : Int) - 1) = ((k - (i + 1) : Nat) : Int) := by rw [w64_id (by omega) (by omega)]; omega
        simp only [go_sem, ↓reduceIte, Nat.reduceEqDiff, Nat.reduceLeDiff, Nat.reduceAdd, Nat.reduceMul, Nat.reduceSub, Nat.reduceBEq, Nat.reduceGT, Nat.reduceLT, Int.reduceLE, Int.reduceLT, Int.reduceNeg, reduceCtorEq, f9, hw1]
        refine ⟨Hold.mk ⟨i + 1, w5, by simp only [go_sem, ↓reduceIte, Nat.reduceEqDiff, Nat.reduceLeDiff, Nat.reduceAdd, Nat.reduceMul, Nat.reduceSub, Nat.reduceBEq, Nat.reduceGT, Nat.reduceLT, Int.reduceLE, Int.reduceLT, Int.reduceNeg, reduceCtorEq, f0], by simp only [go_sem, ↓reduceIte, Nat.reduceEqDiff, Nat.reduceLeDiff, Nat.reduceAdd, Nat.reduceMul, Nat.reduceSub, Nat.reduceBEq, Nat.reduceGT, Nat.reduceLT, Int.reduceLE, Int.reduceLT, Int.reduceNeg, reduceCtorEq, f1], by simp only [go_sem, ↓reduceIte, Nat.reduceEqDiff, Nat.reduceLeDiff, Nat.reduceAdd, Nat.reduceMul, Nat.reduceSub, Nat.reduceBEq, Nat.reduceGT, Nat.reduceLT, Int.reduceLE, Int.reduceLT, Int.reduceNeg, reduceCtorEq], by simp only [go_sem, ↓reduceIte, Nat.reduceEqDiff, Nat.reduceLeDiff, Nat.reduceAdd, Nat.reduceMul, Nat.reduceSub, Nat.reduceBEq, Nat.reduceGT, Nat.reduceLT, Int.reduceLE, Int.reduceLT, Int.reduceNeg, reduceCtorEq, f8], by simp only [go_sem, ↓reduceIte, Nat.reduceEqDiff, Nat.reduceLeDiff, Nat.reduceAdd, Nat.reduceMul, Nat.reduceSub, Nat.reduceBEq, Nat.reduceGT, Nat.reduceLT, Int.reduceLE, Int.reduceLT, Int.reduceNeg, reduceCtorEq], by omega, ?_, ?_, hx4.trans (hg5.upto ho4 hx4.size)⟩, by omega⟩
        · simpa [rdN] using ho5
        · refine hrd4.keep fun b hb hcb => hg5.but.get b hb ?_
          intro hbl
          obtain ⟨c, e, fr, hc, hne'⟩ := hcb
          obtain ⟨_, _, c', hc'⟩ := ho4.blk hbl.symm
          rw [hc] at hc'
          cases hc'
          exact hne' rfl
      · have c5 : ¬ (0 : Int) < ((k - i : Nat) : Int) := by omega
        simp only [go_sem, ↓reduceIte, Nat.reduceEqDiff, Nat.reduceLeDiff, Nat.reduceAdd, Nat.reduceMul, Nat.reduceSub, Nat.reduceBEq, Nat.reduceGT, Nat.reduceLT, Int.reduceLE, Int.reduceLT, Int.reduceNeg, reduceCtorEq, c42_L0, f0, f1, f7, f8, f9, c5]
        have hik' : i = k := by omega
        subst hik'
        obtain ⟨st, hst⟩ : ∃ st, st = (rdN xs i).2 := ⟨_, rfl⟩
        rw [← hst] at hrd3
        have hpos : st.1 ≤ xs.length := by obtain ⟨_, _, _, _, _, _, h⟩ := hrd3; exact h
        have hsp := bspec_cons (n := m - acc.length) (xs := xs) (l := rs.drop 1) (by omega)
        rw [← hrs, ← hk, ← hst] at hsp
        refine FunI.by (F64 H1.size rd xs st H3 hrd3) ?_
        rintro _ _ ⟨rfl, rfl⟩
        by_cases hs0 : st.2 = 0
        · simp only [go_sem, ↓reduceIte, Nat.reduceEqDiff, Nat.reduceLeDiff, Nat.reduceAdd, Nat.reduceMul, Nat.reduceSub, Nat.reduceBEq, Nat.reduceGT, Nat.reduceLT, Int.reduceLE, Int.reduceLT, Int.reduceNeg, reduceCtorEq, f8, hs0]
          refine FunI.by (F65 H1.size rd xs st H3 hrd3 (by omega)) ?_
          rintro _ _ ⟨rfl, rfl⟩
          by_cases hp : st.1 = xs.length
          · have c6 : ¬ (0 : Int) < (xs.length : Int) - st.1 := by omega
            simp only [go_sem, ↓reduceIte, Nat.reduceEqDiff, Nat.reduceLeDiff, Nat.reduceAdd, Nat.reduceMul, Nat.reduceSub, Nat.reduceBEq, Nat.reduceGT, Nat.reduceLT, Int.reduceLE, Int.reduceLT, Int.reduceNeg, reduceCtorEq, hs0, c6, f1, f7]
            have hcl : clean xs st = true := by simp [clean, hs0, hp]
            rw [hcl] at hsp
            refine ⟨Hold.mk ⟨acc ++ (rdN xs i).1, _, _, rs.drop 1, by simp only [go_sem, ↓reduceIte, Nat.reduceEqDiff, Nat.reduceLeDiff, Nat.reduceAdd, Nat.reduceMul, Nat.reduceSub, Nat.reduceBEq, Nat.reduceGT, Nat.reduceLT, Int.reduceLE, Int.reduceLT, Int.reduceNeg, reduceCtorEq, f0], by simp only [go_sem, ↓reduceIte, Nat.reduceEqDiff, Nat.reduceLeDiff, Nat.reduceAdd, Nat.reduceMul, Nat.reduceSub, Nat.reduceBEq, Nat.reduceGT, Nat.reduceLT, Int.reduceLE, Int.reduceLT, Int.reduceNeg, reduceCtorEq, f1], by simp only [go_sem, ↓reduceIte, Nat.reduceEqDiff, Nat.reduceLeDiff, Nat.reduceAdd, Nat.reduceMul, Nat.reduceSub, Nat.reduceBEq, Nat.reduceGT, Nat.reduceLT, Int.reduceLE, Int.reduceLT, Int.reduceNeg, reduceCtorEq, f7], ho3, hrl, fun y hy => hin y (List.mem_of_mem_drop hy), ?_, ?_, hx3⟩, ?_⟩
            · simp [rdN_len]; omega
            · rw [hbs, hsp]
              simp only [if_true, List.length_append, rdN_len, Option.map_map]
              rw [show m - (acc.length + i) = m - acc.length - i by omega]
              congr 1
              funext r
              simp
            · rw [e1]
              simp only [slen]
              omega
          · have c6 : (0 : Int) < (xs.length : Int) - st.1 := by omega
            simp only [go_sem, ↓reduceIte, Nat.reduceEqDiff, Nat.reduceLeDiff, Nat.reduceAdd, Nat.reduceMul, Nat.reduceSub, Nat.reduceBEq, Nat.reduceGT, Nat.reduceLT, Int.reduceLE, Int.reduceLT, Int.reduceNeg, reduceCtorEq, hs0, c6]
            have hcl : clean xs st = false := by simp [clean, hs0, hp]
            rw [hcl] at hsp
            rw [hbs, hsp]
            exact ⟨hx3, trivial⟩
        · simp only [go_sem, ↓reduceIte, Nat.reduceEqDiff, Nat.reduceLeDiff, Nat.reduceAdd, Nat.reduceMul, Nat.reduceSub, Nat.reduceBEq, Nat.reduceGT, Nat.reduceLT, Int.reduceLE, Int.reduceLT, Int.reduceNeg, reduceCtorEq, f8, hs0]
          have hcl : clean xs st = false := by simp [clean, hs0]
          rw [hcl] at hsp
          rw [hbs, hsp]
          exact ⟨hx3, trivial⟩
  · have c1 : ¬ (acc.length : Int) < m := by omega
    have hm : m - acc.length = 0 := by omega
    simp only [go_sem, ↓reduceIte, Nat.reduceEqDiff, Nat.reduceLeDiff, Nat.reduceAdd, Nat.reduceMul, Nat.reduceSub, Nat.reduceBEq, Nat.reduceGT, Nat.reduceLT, Int.reduceLE, Int.reduceLT, Int.reduceNeg, reduceCtorEq, c42_L1, e0, e1, e7, c1]
    rw [hbs, hm, bspec_zero]
    exact ⟨hx, _, _, rfl, by simpa using ho, hr, hin⟩
end Go.Proofs.YtgigigchjnnonaaDoor
