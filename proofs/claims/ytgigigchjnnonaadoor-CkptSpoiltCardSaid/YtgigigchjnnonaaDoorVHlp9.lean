/- Helpers of the laws of files: num, pick, lists compared, clipped, sumOf. -/
import Derived.Test.YtgigigchjnnonaaDoorVLoad
import Derived.Test.YtgigigchjnnonaaDoorVByt
set_option linter.unusedSimpArgs false
set_option linter.unusedVariables false
set_option maxRecDepth 20000
namespace Go.Proofs.YtgigigchjnnonaaDoor
open Go Go.V




-- 21: pith/pithref.SameByteLists
-- 20: pith/pithref.SameBytes


-- 42: []uint8
-- 49: [][]uint8
-- 5: uint8
/-- (a%n+n)%n is a place among n. -/
def pickN (a : Int) (n : Nat) : Nat := (Int.tmod (Int.tmod a n + n) n).toNat
theorem pick_nums (i : Int) (n : Nat) (hn : 0 < n) (hm : n ≤ 4096093020000) : pickN i n < n ∧ (Int.tmod (Int.tmod i n + n) n) = (pickN i n : Int) ∧ IntKind.i64.wrap (Int.tmod i n) = Int.tmod i n ∧ IntKind.i64.wrap (Int.tmod i n + n) = Int.tmod i n + n ∧ IntKind.i64.wrap (pickN i n : Int) = (pickN i n : Int) := by
  have h1 := Int.tmod_lt_of_pos i (show (0 : Int) < n by omega)
  have h2 : -(n : Int) < Int.tmod i n := by
    rcases Int.lt_or_le i 0 with h | h
    · have e : Int.tmod i n = - Int.tmod (-i) n := by rw [Int.neg_tmod, Int.neg_neg]
      have := Int.tmod_lt_of_pos (-i) (show (0 : Int) < n by omega)
      omega
    · have := Int.tmod_nonneg (n : Int) h
      omega
  have h3 := Int.tmod_lt_of_pos (Int.tmod i n + n) (show (0 : Int) < n by omega)
  have h4 : 0 ≤ Int.tmod (Int.tmod i n + n) n := Int.tmod_nonneg _ (by omega)
  unfold pickN
  exact ⟨by omega, by omega, w64_id (by omega) (by omega), w64_id (by omega) (by omega), w64_id (by omega) (by omega)⟩
theorem take_succ_eq {α : Type} {xs ys : List α} {i : Nat} (hx : i < xs.length) (hy : i < ys.length) (d : α) (h : xs.take i = ys.take i) : (xs.take (i + 1) = ys.take (i + 1)) ↔ xs.getD i d = ys.getD i d := by
  have e1 : xs.take (i + 1) = xs.take i ++ [xs[i]] := List.take_succ_eq_append_getElem hx
  have e2 : ys.take (i + 1) = ys.take i ++ [ys[i]] := List.take_succ_eq_append_getElem hy
  have g1 : xs.getD i d = xs[i] := by simp [List.getD_eq_getElem?_getD, List.getElem?_eq_getElem hx]
  have g2 : ys.getD i d = ys[i] := by simp [List.getD_eq_getElem?_getD, List.getElem?_eq_getElem hy]
  rw [e1, e2, h, g1, g2]
  constructor
  · intro hh
    have := List.append_cancel_left hh
    simpa using this
  · intro hh
    rw [hh]
theorem mem_getD {α : Type} {xs : List α} {i : Nat} (h : i < xs.length) (d : α) : xs.getD i d ∈ xs := by
  rw [List.getD_eq_getElem?_getD, List.getElem?_eq_getElem h]; exact List.getElem_mem h

theorem F21 (v u : Value) (xs ys : List (List Int)) (H : Heap) (hv : Lists H 42 5 v xs) (hu : Lists H 42 5 u ys) (hx : ∀ l ∈ xs, Byt l) (hy : ∀ l ∈ ys, Byt l) (hl : xs.length ≤ 140737488350000) :
    Fun Tryd.prog 21 #[v, u] H (fun r H' => r = .bool (decide (xs = ys)) ∧ H = H') := by
  obtain ⟨a, c, rfl⟩ := hv.form
  obtain ⟨a', c', rfl⟩ := hu.form
  refine fun_of mixed (args := [_, _]) Tryd.func21 Tryd.ntmps21 b21 r21 rfl ?_
  simp only [go_sem, ↓reduceIte, Nat.reduceEqDiff, Nat.reduceLeDiff, Nat.reduceAdd, Nat.reduceMul, Nat.reduceSub, Nat.reduceBEq, Nat.reduceGT, Nat.reduceLT, Int.reduceLE, Int.reduceLT, Int.reduceNeg, reduceCtorEq, decide_not]
  refine ⟨fun h => ?_, fun h => ?_⟩
  · have : ¬ xs = ys := fun e => h (by rw [e])
    simp [this]
  refine LoopI.by mixed (fun ρ H' => H = H' ∧ ∃ i : Nat, ρ 0 = .slice a xs.length c ∧ ρ 1 = .slice a' ys.length c' ∧ ρ 5 = .int .i64 i ∧ i ≤ xs.length ∧ xs.take i = ys.take i) (fun ρ _ => xs.length - (iof (ρ 5)).toNat) ?_ ?_
  · exact ⟨rfl, 0, by simp only [go_sem, ↓reduceIte, Nat.reduceEqDiff, Nat.reduceLeDiff, Nat.reduceAdd, Nat.reduceMul, Nat.reduceSub, Nat.reduceBEq, Nat.reduceGT, Nat.reduceLT, Int.reduceLE, Int.reduceLT, Int.reduceNeg, reduceCtorEq], by simp only [go_sem, ↓reduceIte, Nat.reduceEqDiff, Nat.reduceLeDiff, Nat.reduceAdd, Nat.reduceMul, Nat.reduceSub, Nat.reduceBEq, Nat.reduceGT, Nat.reduceLT, Int.reduceLE, Int.reduceLT, Int.reduceNeg, reduceCtorEq], by simp only [go_sem, ↓reduceIte, Nat.reduceEqDiff, Nat.reduceLeDiff, Nat.reduceAdd, Nat.reduceMul, Nat.reduceSub, Nat.reduceBEq, Nat.reduceGT, Nat.reduceLT, Int.reduceLE, Int.reduceLT, Int.reduceNeg, reduceCtorEq]; rfl, by omega, by simp⟩
  rintro ρ _ ⟨rfl, i, e0, e1, e5, hi, ht⟩
  have hlen : xs.length = ys.length := by omega
  by_cases hlt : i < xs.length
  · obtain ⟨b, o, rfl⟩ := hv.at hlt
    obtain ⟨b', o', rfl⟩ := hu.at (show i < ys.length by omega)
    obtain ⟨w1, g1, hw1⟩ := hv.get hlt
    obtain ⟨w2, g2, hw2⟩ := hu.get (show i < ys.length by omega)
    have hbx := hx _ (mem_getD hlt [])
    have hby := hy _ (mem_getD (show i < ys.length by omega) [])
    have c1 : (i : Int) < xs.length := by omega
    have c2 : (i : Int) < ys.length := by omega
    have c0 : (0 : Int) ≤ i := by omega
    simp only [go_sem, ↓reduceIte, Nat.reduceEqDiff, Nat.reduceLeDiff, Nat.reduceAdd, Nat.reduceMul, Nat.reduceSub, Nat.reduceBEq, Nat.reduceGT, Nat.reduceLT, Int.reduceLE, Int.reduceLT, Int.reduceNeg, reduceCtorEq, c21_L0, e0, e1, e5, c0, c1, c2, g1, g2]
    refine FunIQ.by (F20 w1 w2 _ _ H hw1 hw2 hbx hby) ?_
    simp only [go_sem, ↓reduceIte, Nat.reduceEqDiff, Nat.reduceLeDiff, Nat.reduceAdd, Nat.reduceMul, Nat.reduceSub, Nat.reduceBEq, Nat.reduceGT, Nat.reduceLT, Int.reduceLE, Int.reduceLT, Int.reduceNeg, reduceCtorEq, Bool.not_eq_true', decide_eq_false_iff_not, e5]
    have ts := take_succ_eq hlt (show i < ys.length by omega) [] ht
    refine ⟨fun hne => ?_, fun heq => ?_⟩
    · have : ¬ xs = ys := fun e => hne (by rw [e])
      simp [this]
    · rw [w64_id (by omega) (by omega)]
      exact ⟨Hold.mk ⟨rfl, i + 1, by simp only [go_sem, ↓reduceIte, Nat.reduceEqDiff, Nat.reduceLeDiff, Nat.reduceAdd, Nat.reduceMul, Nat.reduceSub, Nat.reduceBEq, Nat.reduceGT, Nat.reduceLT, Int.reduceLE, Int.reduceLT, Int.reduceNeg, reduceCtorEq, e0], by simp only [go_sem, ↓reduceIte, Nat.reduceEqDiff, Nat.reduceLeDiff, Nat.reduceAdd, Nat.reduceMul, Nat.reduceSub, Nat.reduceBEq, Nat.reduceGT, Nat.reduceLT, Int.reduceLE, Int.reduceLT, Int.reduceNeg, reduceCtorEq, e1], by simp only [go_sem, ↓reduceIte, Nat.reduceEqDiff, Nat.reduceLeDiff, Nat.reduceAdd, Nat.reduceMul, Nat.reduceSub, Nat.reduceBEq, Nat.reduceGT, Nat.reduceLT, Int.reduceLE, Int.reduceLT, Int.reduceNeg, reduceCtorEq]; rfl, by omega, ts.2 heq⟩, by omega⟩
  · have c1 : ¬ (i : Int) < xs.length := by omega
    simp only [go_sem, ↓reduceIte, Nat.reduceEqDiff, Nat.reduceLeDiff, Nat.reduceAdd, Nat.reduceMul, Nat.reduceSub, Nat.reduceBEq, Nat.reduceGT, Nat.reduceLT, Int.reduceLE, Int.reduceLT, Int.reduceNeg, reduceCtorEq, c21_L0, e0, e1, e5, c1]
    have : i = xs.length := by omega
    subst this
    rw [List.take_of_length_le (Nat.le_refl _), hlen, List.take_of_length_le (Nat.le_refl _)] at ht
    simp [ht]

/-- Payloads that may be, at most 40 of them. -/
def clipL (l : List (List Int)) : List (List Int) := (l.take 40).map (·.take 1024)
theorem ints_take {H : Heap} {e : TypeId} {k : IntKind} {xs : List Int} {a : Option Addr} {len cap m : Nat} (h : Ints H e k (.slice a len cap) xs) (hm : m ≤ len) : Ints H e k (.slice a m cap) (xs.take m) := by
  have hc := Sl.lecap h
  have := Sl.sub h (l := 0) (h := m) (m := cap) (by omega) hm (by omega)
  simp only [Nat.zero_mul, Nat.sub_zero, Nat.mul_one, List.drop_zero] at this
  have ea : (if cap = 0 then a else Option.map (·.add 0) a) = a := by
    split
    · rfl
    · cases a <;> simp [Addr.add]
  rw [ea] at this
  unfold Ints
  rw [List.map_take]
  exact this
theorem hget_lt {H : Heap} {b o : Nat} {v : Value} (h : hget H b o = some v) : b < H.size := by
  rcases Nat.lt_or_ge b H.size with hb | hb
  · exact hb
  · unfold hget at h
    rw [Array.getElem?_eq_none hb] at h
    cases h
theorem clipL_take {l : List (List Int)} {i : Nat} (hi : i < l.length) (h4 : i < 40) : clipL (l.take (i + 1)) = clipL (l.take i) ++ [(l.getD i []).take 1024] := by
  unfold clipL
  rw [List.take_take, List.take_take, Nat.min_eq_right (by omega), Nat.min_eq_right (by omega), List.take_succ_eq_append_getElem hi, List.map_append]
  simp [List.getD_eq_getElem?_getD, List.getElem?_eq_getElem hi]
theorem clipL_end {l : List (List Int)} {i : Nat} (h : i = l.length ∨ i = 40) : clipL (l.take i) = clipL l := by
  rcases h with rfl | rfl
  · rw [List.take_length]
  · unfold clipL
    rw [List.take_take]
    simp
theorem flat_take {l : List (List Int)} {i : Nat} (hi : i < l.length) : (l.take (i + 1)).flatten = (l.take i).flatten ++ l.getD i [] := by
  rw [List.take_succ_eq_append_getElem hi, List.flatten_append]
  simp [List.getD_eq_getElem?_getD, List.getElem?_eq_getElem hi]
theorem flat_len {l : List (List Int)} {m : Nat} (hm : ∀ x ∈ l, x.length ≤ m) : l.flatten.length ≤ l.length * m := by
  induction l with
  | nil => simp
  | cons x l ih =>
    have h1 := hm x List.mem_cons_self
    have h2 := ih fun y hy => hm y (List.mem_cons_of_mem _ hy)
    simp only [List.flatten_cons, List.length_append, List.length_cons, Nat.succ_mul]
    omega
end Go.Proofs.YtgigigchjnnonaaDoor
