/- One number as bytes, in both packages, and copies of bytes. -/
import Derived.Test.YtgigigchjnnonaaGreatDoorVHlp9
set_option linter.unusedSimpArgs false
set_option linter.unusedVariables false
set_option maxRecDepth 20000
namespace Go.Proofs.YtgigigchjnnonaaGreatDoor
open Go Go.V
def vlen (x : Int) : Nat := if h : 128 ≤ x then vlen (x / 128) + 1 else 1
termination_by x.toNat
decreasing_by omega
theorem vlen_pos (x : Int) : 1 ≤ vlen x := by unfold vlen; split <;> omega
theorem vlen_ge {x : Int} (h : 128 ≤ x) : vlen x = vlen (x / 128) + 1 := by rw [vlen]; simp [h]
theorem vlen_lt {x : Int} (h : ¬ 128 ≤ x) : vlen x = 1 := by rw [vlen]; simp [h]
theorem vlen_bound : ∀ (n : Nat) (x : Int), x < 128 ^ n → 0 < n → vlen x ≤ n
  | 0, x, _, h => by omega
  | n + 1, x, hx, _ => by
    by_cases h : 128 ≤ x
    · rw [vlen_ge h]
      cases n with
      | zero => simp at hx; omega
      | succ n =>
        have := vlen_bound (n + 1) (x / 128) (by rw [Int.pow_succ] at hx; omega) (by omega)
        omega
    · rw [vlen_lt h]; omega
theorem vlen_9 {x : Int} (h : x < 9223372036854775808) : vlen x ≤ 9 := vlen_bound 9 x (by omega) (by omega)

theorem F201 (x : Int) (H : Heap) (h0 : x < 9223372036854775808) : Fun Tryz.prog 201 #[.int .i64 x] H (fun v H' => v = .int .i64 (vlen x) ∧ H = H') := by
  refine fun_of mixed (args := [.int .i64 x]) Tryz.func201 Tryz.ntmps201 b201 r201 rfl ?_
  simp only [go_sem, ↓reduceIte, Nat.reduceEqDiff, Nat.reduceLeDiff, Nat.reduceAdd, Nat.reduceMul, Nat.reduceSub, Nat.reduceBEq, Nat.reduceGT, Nat.reduceLT, Int.reduceLE, Int.reduceLT, Int.reduceNeg, reduceCtorEq]
  refine LoopI.by mixed (fun ρ H' => H = H' ∧ ∃ y k : Int, ρ 0 = .int .i64 y ∧ ρ 3 = .int .i64 k ∧ k + vlen y = vlen x + 1 ∧ 1 ≤ k ∧ y < 9223372036854775808) (fun ρ _ => (iof (ρ 0)).toNat) ?_ ?_
  · refine ⟨rfl, x, 1, ?_⟩
    simp only [go_sem, ↓reduceIte, Nat.reduceEqDiff, Nat.reduceLeDiff, Nat.reduceAdd, Nat.reduceMul, Nat.reduceSub, Nat.reduceBEq, Nat.reduceGT, Nat.reduceLT, Int.reduceLE, Int.reduceLT, Int.reduceNeg, reduceCtorEq]
    omega
  rintro ρ _ ⟨rfl, y, k, e0, e3, hk, hk1, hy⟩
  have hv := vlen_9 hy
  have hx := vlen_9 h0
  simp only [go_sem, ↓reduceIte, Nat.reduceEqDiff, Nat.reduceLeDiff, Nat.reduceAdd, Nat.reduceMul, Nat.reduceSub, Nat.reduceBEq, Nat.reduceGT, Nat.reduceLT, Int.reduceLE, Int.reduceLT, Int.reduceNeg, reduceCtorEq, c201_L0, e0, e3]
  refine ⟨fun h => ?_, fun h => ?_⟩
  · rw [vlen_ge h] at hk hv
    have e1 : ishr .i64 y 7 = y / 128 := ishr_eq (by omega) (by decide)
    rw [e1, w64_id (by omega) (by omega)]
    exact ⟨Hold.mk ⟨rfl, y / 128, k + 1, by simp only [go_sem, ↓reduceIte, Nat.reduceEqDiff, Nat.reduceLeDiff, Nat.reduceAdd, Nat.reduceMul, Nat.reduceSub, Nat.reduceBEq, Nat.reduceGT, Nat.reduceLT, Int.reduceLE, Int.reduceLT, Int.reduceNeg, reduceCtorEq], by simp only [go_sem, ↓reduceIte, Nat.reduceEqDiff, Nat.reduceLeDiff, Nat.reduceAdd, Nat.reduceMul, Nat.reduceSub, Nat.reduceBEq, Nat.reduceGT, Nat.reduceLT, Int.reduceLE, Int.reduceLT, Int.reduceNeg, reduceCtorEq], by omega, by omega, by omega⟩, by omega⟩
  · rw [vlen_lt h] at hk
    rw [show k = vlen x by omega]

/-- The digits of x below place i, the highest first. -/
def vtail (x : Int) : Nat → List Int
  | 0 => []
  | i + 1 => ((x / 128 ^ i) % 128 + if i = 0 then 0 else 128) :: vtail x i
/-- A number's form. -/
def vput (x : Int) : List Int := vtail (max x 0) (vlen (max x 0))
theorem vtail_len (x : Int) : ∀ i, (vtail x i).length = i
  | 0 => rfl
  | i + 1 => by simp [vtail, vtail_len x i]
theorem vtail_wf (x : Int) : ∀ i, ∀ c ∈ vtail x i, 0 ≤ c ∧ c < 256
  | 0, c, h => by cases h
  | i + 1, c, h => by
    simp only [vtail, List.mem_cons] at h
    rcases h with h | h
    · subst h
      have := Int.emod_nonneg (x / 128 ^ i) (b := 128) (by omega)
      have := Int.emod_lt_of_pos (x / 128 ^ i) (b := 128) (by omega)
      split <;> omega
    · exact vtail_wf x i c h
theorem vput_len (x : Int) : (vput x).length = vlen (max x 0) := vtail_len _ _
theorem pow7 (i : Nat) : (2 : Int) ^ (7 * i) = 128 ^ i := by rw [Int.pow_mul]; rfl
/-- byte(x >> (7i)) & 127. -/
theorem vbyte {x i : Int} (hx : 0 ≤ x) (h0 : 0 ≤ i) (h1 : i ≤ 8) : ibits .and .u8 (IntKind.u8.wrap (ishr .i64 x (7 * i))) 127 = (x / 128 ^ i.toNat) % 128 := by
  rw [ishr_eq (by omega) (by simp [IntKind.bits]; omega), show (7 * i).toNat = 7 * i.toNat by omega, pow7, wu8]
  have h2 : 0 ≤ x / 128 ^ i.toNat := Int.ediv_nonneg hx (Int.pow_nonneg (by omega))
  generalize x / 128 ^ i.toNat = q at *
  rw [and127 (by omega) (by omega)]
  omega

theorem F85 (B : Nat) (v : Value) (xs : List Int) (x : Int) (H : Heap) (ho : V.Own H B 5 1 v (xs.map (.int .u8))) (hB : B ≤ H.size) (hx : x < 9223372036854775808) (hl : xs.length ≤ 140737488350000) :
    Fun Tryz.prog 85 #[v, .int .i64 x] H (fun v' H' => V.Own H' B 5 1 v' ((xs ++ vput x).map (.int .u8)) ∧ Grow v H v' H') := by
  obtain ⟨y, hy⟩ : ∃ y, max x 0 = y := ⟨_, rfl⟩
  have hy0 : 0 ≤ y := by omega
  have hy1 : y < 9223372036854775808 := by omega
  have hL := vlen_9 hy1
  have hL1 := vlen_pos y
  refine fun_of mixed (args := [v, .int .i64 x]) Tryz.func85 Tryz.ntmps85 b85 r85 rfl ?_
  simp only [go_sem, ↓reduceIte, Nat.reduceEqDiff, Nat.reduceLeDiff, Nat.reduceAdd, Nat.reduceMul, Nat.reduceSub, Nat.reduceBEq, Nat.reduceGT, Nat.reduceLT, Int.reduceLE, Int.reduceLT, Int.reduceNeg, reduceCtorEq]
  have hmax : (if 0 > x then 0 else x) = y := by split <;> omega
  rw [hmax]
  refine FunI.by (F201 y H hy1) ?_
  rintro _ _ ⟨rfl, rfl⟩
  simp only [go_sem, ↓reduceIte, Nat.reduceEqDiff, Nat.reduceLeDiff, Nat.reduceAdd, Nat.reduceMul, Nat.reduceSub, Nat.reduceBEq, Nat.reduceGT, Nat.reduceLT, Int.reduceLE, Int.reduceLT, Int.reduceNeg, reduceCtorEq]
  refine LoopI.by mixed (fun ρ H' => ∃ (i : Int) (v' : Value) (zs : List Int), ρ 1 = .int .i64 y ∧ ρ 5 = .int .i64 i ∧ ρ 0 = v' ∧ -1 ≤ i ∧ i ≤ 8 ∧ V.Own H' B 5 1 v' (zs.map (.int .u8)) ∧ Grow v H v' H' ∧
    zs ++ vtail y (i + 1).toNat = xs ++ vput x ∧ zs.length + i ≤ 140737488350010 ∧ B ≤ H'.size) (fun ρ _ => (iof (ρ 5) + 1).toNat) ?_ ?_
  · refine ⟨vlen y - 1, v, xs, ?_⟩
    simp only [go_sem, ↓reduceIte, Nat.reduceEqDiff, Nat.reduceLeDiff, Nat.reduceAdd, Nat.reduceMul, Nat.reduceSub, Nat.reduceBEq, Nat.reduceGT, Nat.reduceLT, Int.reduceLE, Int.reduceLT, Int.reduceNeg, reduceCtorEq]
    rw [w64_id (by omega) (by omega)]
    exact ⟨rfl, by omega, by omega, ho, Grow.refl _ _, by rw [vput, hy]; congr 2; omega, by omega, hB⟩
  rintro ρ H' ⟨i, v', zs, e1, e5, e0, hi0, hi1, ho', hg, hz, hzl, hB'⟩
  have step : 0 ≤ i → ∀ c : Int, c = (y / 128 ^ i.toNat) % 128 + (if i.toNat = 0 then 0 else 128) →
      RunS Tryz.prog (sAppend #[53, 53] #[v', .slice (some ⟨H'.size, 0, none⟩) 1 1]) (H'.push (.cells [Value.int .u8 c].toArray 5)) (fun v2 H2 =>
        V.Own H2 B 5 1 v2 ((zs ++ [c]).map (.int .u8)) ∧ Grow v H v2 H2 ∧ zs ++ [c] ++ vtail y i.toNat = xs ++ vput x ∧ B ≤ H2.size) := by
    intro h0 c hc
    refine (append_lit ty53 ty5 rfl (by decide) ho' (ys := [.int .u8 c]) (m := 1) rfl rfl (n := zs.length + 1) (by simp) (by omega) (by omega) hB').mono ?_
    rintro v2 H2 ⟨h1, h2, _⟩
    refine ⟨by simpa using h1, hg.trans h2, ?_, by have := h2.but.size; omega⟩
    rw [← hz, show (i + 1).toNat = i.toNat + 1 by omega, vtail, ← hc]
    simp
  simp only [go_sem, ↓reduceIte, Nat.reduceEqDiff, Nat.reduceLeDiff, Nat.reduceAdd, Nat.reduceMul, Nat.reduceSub, Nat.reduceBEq, Nat.reduceGT, Nat.reduceLT, Int.reduceLE, Int.reduceLT, Int.reduceNeg, reduceCtorEq, c85_L0, e0, e1, e5]
  refine ⟨fun h0 => ?_, fun h0 => ?_⟩
  · have hw : IntKind.i64.wrap (7 * i) = 7 * i := w64_id (by omega) (by omega)
    rw [hw, vbyte hy0 h0 hi1]
    have hq0 := Int.emod_nonneg (y / 128 ^ i.toNat) (b := 128) (by omega)
    have hq1 := Int.emod_lt_of_pos (y / 128 ^ i.toNat) (b := 128) (by omega)
    refine ⟨by omega, fun h1 => ?_, fun h1 => ?_⟩
    · rw [or128 hq0 hq1]
      refine RunI.by (step h0 _ (by rw [if_neg (by omega)])) ?_
      rintro v2 H2 ⟨h2, h3, h4, h5⟩
      simp only [go_sem, ↓reduceIte, Nat.reduceEqDiff, Nat.reduceLeDiff, Nat.reduceAdd, Nat.reduceMul, Nat.reduceSub, Nat.reduceBEq, Nat.reduceGT, Nat.reduceLT, Int.reduceLE, Int.reduceLT, Int.reduceNeg, reduceCtorEq, e1, e5]
      rw [w64_id (by omega) (by omega)]
      exact ⟨Hold.mk ⟨i - 1, v2, _, by simp only [go_sem, ↓reduceIte, Nat.reduceEqDiff, Nat.reduceLeDiff, Nat.reduceAdd, Nat.reduceMul, Nat.reduceSub, Nat.reduceBEq, Nat.reduceGT, Nat.reduceLT, Int.reduceLE, Int.reduceLT, Int.reduceNeg, reduceCtorEq, e1], by simp only [go_sem, ↓reduceIte, Nat.reduceEqDiff, Nat.reduceLeDiff, Nat.reduceAdd, Nat.reduceMul, Nat.reduceSub, Nat.reduceBEq, Nat.reduceGT, Nat.reduceLT, Int.reduceLE, Int.reduceLT, Int.reduceNeg, reduceCtorEq], by simp only [go_sem, ↓reduceIte, Nat.reduceEqDiff, Nat.reduceLeDiff, Nat.reduceAdd, Nat.reduceMul, Nat.reduceSub, Nat.reduceBEq, Nat.reduceGT, Nat.reduceLT, Int.reduceLE, Int.reduceLT, Int.reduceNeg, reduceCtorEq], by omega, by omega, h2, h3, by rw [show (i - 1 + 1).toNat = i.toNat by omega]; exact h4, by simp; omega, h5⟩, by omega⟩
    · refine RunI.by (step h0 _ (by rw [if_pos (by omega)]; omega)) ?_
      rintro v2 H2 ⟨h2, h3, h4, h5⟩
      simp only [go_sem, ↓reduceIte, Nat.reduceEqDiff, Nat.reduceLeDiff, Nat.reduceAdd, Nat.reduceMul, Nat.reduceSub, Nat.reduceBEq, Nat.reduceGT, Nat.reduceLT, Int.reduceLE, Int.reduceLT, Int.reduceNeg, reduceCtorEq, e1, e5]
      rw [w64_id (by omega) (by omega)]
      exact ⟨Hold.mk ⟨i - 1, v2, _, by simp only [go_sem, ↓reduceIte, Nat.reduceEqDiff, Nat.reduceLeDiff, Nat.reduceAdd, Nat.reduceMul, Nat.reduceSub, Nat.reduceBEq, Nat.reduceGT, Nat.reduceLT, Int.reduceLE, Int.reduceLT, Int.reduceNeg, reduceCtorEq, e1], by simp only [go_sem, ↓reduceIte, Nat.reduceEqDiff, Nat.reduceLeDiff, Nat.reduceAdd, Nat.reduceMul, Nat.reduceSub, Nat.reduceBEq, Nat.reduceGT, Nat.reduceLT, Int.reduceLE, Int.reduceLT, Int.reduceNeg, reduceCtorEq], by simp only [go_sem, ↓reduceIte, Nat.reduceEqDiff, Nat.reduceLeDiff, Nat.reduceAdd, Nat.reduceMul, Nat.reduceSub, Nat.reduceBEq, Nat.reduceGT, Nat.reduceLT, Int.reduceLE, Int.reduceLT, Int.reduceNeg, reduceCtorEq], by omega, by omega, h2, h3, by rw [show (i - 1 + 1).toNat = i.toNat by omega]; exact h4, by simp; omega, h5⟩, by omega⟩
  · have hi : i = -1 := by omega
    subst hi
    simp only [vtail, Int.reduceAdd, Int.toNat_zero, List.append_nil] at hz
    rw [← hz]
    exact ⟨ho', hg⟩

theorem F86 (v : Value) (xs : List Int) (m : Int) (H : Heap) (hs : Ints H 5 .u8 v xs) (hl : xs.length ≤ 140737488350000) (h0 : 0 ≤ m) (h1 : m ≤ 140737488350000) :
    Fun Tryz.prog 86 #[v, .int .i64 m] H (fun v' H' => V.Own H' H.size 5 1 v' (xs.map (.int .u8)) ∧ Ext H H') := by
  obtain ⟨a, cap, rfl⟩ := hs.form
  refine fun_of mixed (args := [_, .int .i64 m]) Tryz.func86 Tryz.ntmps86 b86 r86 rfl ?_
  simp only [go_sem, ↓reduceIte, Nat.reduceEqDiff, Nat.reduceLeDiff, Nat.reduceAdd, Nat.reduceMul, Nat.reduceSub, Nat.reduceBEq, Nat.reduceGT, Nat.reduceLT, Int.reduceLE, Int.reduceLT, Int.reduceNeg, reduceCtorEq]
  rw [w64_id (by omega) (by omega)]
  refine ⟨by omega, by omega, by omega, by omega, ?_⟩
  have hc : ((xs.length : Int) + m).toNat = xs.length + m.toNat := by omega
  rw [hc]
  have ho : V.Own (H.push (.cells (zrow (.int .u8 0) (xs.length + m.toNat)) 5)) H.size 5 1 (.slice (some ⟨H.size, 0, none⟩) xs.length (xs.length + m.toNat)) ((zrow (.int .u8 0) (xs.length + m.toNat)).toList.take (xs.length * 1)) := by
    have := V.Own.made (H := H) (B := H.size) (e := 5) (sz := 1) (l := xs.length) (c := xs.length + m.toNat) (z := .int .u8 0) (Nat.le_refl _) (by omega) (by omega)
    rw [Nat.mul_one (xs.length + m.toNat)] at this
    exact this
  refine RunI.by (copy_own ty53 ty5 ho (hs.ext (Ext.push _)) (by simp [Value.oneCell']) (n := xs.length) (m := xs.length) ?_ (by simp) (Nat.le_refl _) (by decide)) ?_
  · simp [zrow_size]
  rintro u H' ⟨rfl, h2, h3⟩
  simp only [go_sem, ↓reduceIte, Nat.reduceEqDiff, Nat.reduceLeDiff, Nat.reduceAdd, Nat.reduceMul, Nat.reduceSub, Nat.reduceBEq, Nat.reduceGT, Nat.reduceLT, Int.reduceLE, Int.reduceLT, Int.reduceNeg, reduceCtorEq]
  refine ⟨?_, ?_⟩
  · have : List.drop (xs.length * 1) (List.take (xs.length * 1) (zrow (Value.int IntKind.u8 0) (xs.length + m.toNat)).toList) = [] := by simp
    rw [this, List.append_nil] at h2
    exact h2
  · exact ((Upto.refl _ _).push (Nat.le_refl _) _).trans (h3.upto (fun k hk => by cases hk; exact Nat.le_refl _) (by simp))

theorem F32 (v : Value) (xs : List Int) (x : Int) (H : Heap) (hs : Ints H 5 .u8 v xs) (hl : xs.length ≤ 140737488350000) (hx : x < 9223372036854775808) :
    Fun Tryz.prog 32 #[v, .int .i64 x] H (fun v' H' => V.Own H' H.size 5 1 v' ((xs ++ vput x).map (.int .u8)) ∧ Ext H H') := by
  refine fun_of mixed (args := [v, .int .i64 x]) Tryz.func32 Tryz.ntmps32 b32 r32 rfl ?_
  simp only [go_sem, ↓reduceIte, Nat.reduceEqDiff, Nat.reduceLeDiff, Nat.reduceAdd, Nat.reduceMul, Nat.reduceSub, Nat.reduceBEq, Nat.reduceGT, Nat.reduceLT, Int.reduceLE, Int.reduceLT, Int.reduceNeg, reduceCtorEq]
  refine FunI.by (F86 v xs 9 H hs hl (by omega) (by omega)) ?_
  rintro v1 H1 ⟨h1, h2⟩
  simp only [go_sem, ↓reduceIte, Nat.reduceEqDiff, Nat.reduceLeDiff, Nat.reduceAdd, Nat.reduceMul, Nat.reduceSub, Nat.reduceBEq, Nat.reduceGT, Nat.reduceLT, Int.reduceLE, Int.reduceLT, Int.reduceNeg, reduceCtorEq]
  refine FunI.by (F85 H.size v1 xs x H1 h1 h2.size hx hl) ?_
  rintro v2 H2 ⟨h3, h4⟩
  simp only [go_sem, ↓reduceIte, Nat.reduceEqDiff, Nat.reduceLeDiff, Nat.reduceAdd, Nat.reduceMul, Nat.reduceSub, Nat.reduceBEq, Nat.reduceGT, Nat.reduceLT, Int.reduceLE, Int.reduceLT, Int.reduceNeg, reduceCtorEq]
  exact ⟨h3, h2.trans (h4.upto h1 h2.size)⟩

end Go.Proofs.YtgigigchjnnonaaGreatDoor
