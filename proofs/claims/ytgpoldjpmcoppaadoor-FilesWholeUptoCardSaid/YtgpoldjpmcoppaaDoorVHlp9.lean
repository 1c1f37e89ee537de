/- Helpers of the laws of files: num, pick, lists compared, clipped, sumOf. -/
import Derived.Test.YtgpoldjpmcoppaaDoorVLoad
import Derived.Test.YtgpoldjpmcoppaaDoorVByt
set_option linter.unusedSimpArgs false
set_option linter.unusedVariables false
set_option maxRecDepth 20000
namespace Go.Proofs.YtgpoldjpmcoppaaDoor
open Go Go.V
-- 19: pith/pithlaw9.num
-- 21: pith/pithlaw9.pick
-- 11: pith/pithlaw9.clipped
-- 27: pith/pithlaw9.sumOf
-- 15: pith/pithref.SameByteLists
-- 14: pith/pithref.SameBytes
-- 51: pith/pithref.Bytes
-- 52: pith/pithref2.Sum
-- 22: []uint8
-- 23: [][]uint8
-- 5: uint8
theorem F19 (x : Int) (H : Heap) : Fun Tryd.prog 19 #[.int .i64 x] H (fun r H' => r = .int .i64 x ∧ H = H') := by
  refine fun_of mixed (args := [_]) Tryd.func19 Tryd.ntmps19 b19 r19 rfl ?_
  simp only [go_sem, ↓reduceIte, Nat.reduceEqDiff, Nat.reduceLeDiff, Nat.reduceAdd, Nat.reduceMul, Nat.reduceSub, Nat.reduceBEq, Nat.reduceGT, Nat.reduceLT, Int.reduceLE, Int.reduceLT, Int.reduceNeg, reduceCtorEq]
/-- (a%n+n)%n is a place among n. -/
def pickN (a : Int) (n : Nat) : Nat := (Int.tmod (Int.tmod a n + n) n).toNat
theorem pick_nums (i : Int) (n : Nat) (hn : 0 < n) (hm : n ≤ 4096093020000) : pickN i n < n ∧ (Int.tmod (Int.tmod i n + n) n) = (pickN i n : Int) ∧ IntKind.i64.wrap (Int.tmod i n) = Int.tmod i n ∧ IntKind.i64.wrap (Int.tmod i n + n) = Int.tmod i n + n ∧ IntKind.i64.wrap (pickN i n : Int) = (pickN i n : Int) := by
  have h1 := Int.tmod_lt_of_pos i (show (0 : Int) < n by omega)
  have h2 : -(n : Int) < Int.tmod i n := by
    rcases Int.lt_or_le i 0 with h | h
    · have e : Int.tmod i n = - Int.tmod (-i) n := by rw [Int.neg_tmod, Int.neg_neg]
      have := Int.tmod_lt_of_pos (-i) (show (0 : Int) < n by omega)
      omega
    · have := Int.tmod_nonneg (n : Int) h
      omega
  have h3 := Int.tmod_lt_of_pos (Int.tmod i n + n) (show (0 : Int) < n by omega)
  have h4 : 0 ≤ Int.tmod (Int.tmod i n + n) n := Int.tmod_nonneg _ (by omega)
  unfold pickN
  exact ⟨by omega, by omega, w64_id (by omega) (by omega), w64_id (by omega) (by omega), w64_id (by omega) (by omega)⟩
theorem F21 (a : Int) (n : Nat) (hn : 0 < n) (hm : n ≤ 4096093020000) (H : Heap) : Fun Tryd.prog 21 #[.int .i64 a, .int .i64 n] H (fun r H' => r = .int .i64 (pickN a n) ∧ H = H') := by
  refine fun_of mixed (args := [_, _]) Tryd.func21 Tryd.ntmps21 b21 r21 rfl ?_
  obtain ⟨e0, e1, e2, e3, e4⟩ := pick_nums a n hn hm
  have hn0 : ¬ ((n : Int) = 0) := by omega
  simp only [go_sem, ↓reduceIte, Nat.reduceEqDiff, Nat.reduceLeDiff, Nat.reduceAdd, Nat.reduceMul, Nat.reduceSub, Nat.reduceBEq, Nat.reduceGT, Nat.reduceLT, Int.reduceLE, Int.reduceLT, Int.reduceNeg, reduceCtorEq, hn0, e2, e3, e1, e4]
  exact ⟨hn0, hn0⟩
theorem take_succ_eq {α : Type} {xs ys : List α} {i : Nat} (hx : i < xs.length) (hy : i < ys.length) (d : α) (h : xs.take i = ys.take i) : (xs.take (i + 1) = ys.take (i + 1)) ↔ xs.getD i d = ys.getD i d := by
  have e1 : xs.take (i + 1) = xs.take i ++ [xs[i]] := List.take_succ_eq_append_getElem hx
  have e2 : ys.take (i + 1) = ys.take i ++ [ys[i]] := List.take_succ_eq_append_getElem hy
  have g1 : xs.getD i d = xs[i] := by simp [List.getD_eq_getElem?_getD, List.getElem?_eq_getElem hx]
  have g2 : ys.getD i d = ys[i] := by simp [List.getD_eq_getElem?_getD, List.getElem?_eq_getElem hy]
  rw [e1, e2, h, g1, g2]
  constructor
  · intro hh
    have := List.append_cancel_left hh
    simpa using this
  · intro hh
    rw [hh]
theorem mem_getD {α : Type} {xs : List α} {i : Nat} (h : i < xs.length) (d : α) : xs.getD i d ∈ xs := by
  rw [List.getD_eq_getElem?_getD, List.getElem?_eq_getElem h]; exact List.getElem_mem h

theorem F15 (v u : Value) (xs ys : List (List Int)) (H : Heap) (hv : Lists H 22 5 v xs) (hu : Lists H 22 5 u ys) (hx : ∀ l ∈ xs, Byt l) (hy : ∀ l ∈ ys, Byt l) (hl : xs.length ≤ 140737488350000) :
    Fun Tryd.prog 15 #[v, u] H (fun r H' => r = .bool (decide (xs = ys)) ∧ H = H') := by
  obtain ⟨a, c, rfl⟩ := hv.form
  obtain ⟨a', c', rfl⟩ := hu.form
  refine fun_of mixed (args := [_, _]) Tryd.func15 Tryd.ntmps15 b15 r15 rfl ?_
  simp only [go_sem, ↓reduceIte, Nat.reduceEqDiff, Nat.reduceLeDiff, Nat.reduceAdd, Nat.reduceMul, Nat.reduceSub, Nat.reduceBEq, Nat.reduceGT, Nat.reduceLT, Int.reduceLE, Int.reduceLT, Int.reduceNeg, reduceCtorEq, decide_not]
  refine ⟨fun h => ?_, fun h => ?_⟩
  · have : ¬ xs = ys := fun e => h (by rw [e])
    simp [this]
  refine LoopI.by mixed (fun ρ H' => H = H' ∧ ∃ i : Nat, ρ 0 = .slice a xs.length c ∧ ρ 1 = .slice a' ys.length c' ∧ ρ 5 = .int .i64 i ∧ i ≤ xs.length ∧ xs.take i = ys.take i) (fun ρ _ => xs.length - (iof (ρ 5)).toNat) ?_ ?_
  · exact ⟨rfl, 0, by simp only [go_sem, ↓reduceIte, Nat.reduceEqDiff, Nat.reduceLeDiff, Nat.reduceAdd, Nat.reduceMul, Nat.reduceSub, Nat.reduceBEq, Nat.reduceGT, Nat.reduceLT, Int.reduceLE, Int.reduceLT, Int.reduceNeg, reduceCtorEq], by simp only [go_sem, ↓reduceIte, Nat.reduceEqDiff, Nat.reduceLeDiff, Nat.reduceAdd, Nat.reduceMul, Nat.reduceSub, Nat.reduceBEq, Nat.reduceGT, Nat.reduceLT, Int.reduceLE, Int.reduceLT, Int.reduceNeg, reduceCtorEq], by simp only [go_sem, ↓reduceIte, Nat.reduceEqDiff, Nat.reduceLeDiff, Nat.reduceAdd, Nat.reduceMul, Nat.reduceSub, Nat.reduceBEq, Nat.reduceGT, Nat.reduceLT, Int.reduceLE, Int.reduceLT, Int.reduceNeg, reduceCtorEq]; rfl, by omega, by simp⟩
  rintro ρ _ ⟨rfl, i, e0, e1, e5, hi, ht⟩
  have hlen : xs.length = ys.length := by omega
  by_cases hlt : i < xs.length
  · obtain ⟨b, o, rfl⟩ := hv.at hlt
    obtain ⟨b', o', rfl⟩ := hu.at (show i < ys.length by omega)
    obtain ⟨w1, g1, hw1⟩ := hv.get hlt
    obtain ⟨w2, g2, hw2⟩ := hu.get (show i < ys.length by omega)
    have hbx := hx _ (mem_getD hlt [])
    have hby := hy _ (mem_getD (show i < ys.length by omega) [])
    have c1 : (i : Int) < xs.length := by omega
    have c2 : (i : Int) < ys.length := by omega
    have c0 : (0 : Int) ≤ i := by omega
    simp only [go_sem, ↓reduceIte, Nat.reduceEqDiff, Nat.reduceLeDiff, Nat.reduceAdd, Nat.reduceMul, Nat.reduceSub, Nat.reduceBEq, Nat.reduceGT, Nat.reduceLT, Int.reduceLE, Int.reduceLT, Int.reduceNeg, reduceCtorEq, c15_L0, e0, e1, e5, c0, c1, c2, g1, g2]
    refine FunIQ.by (F14 w1 w2 _ _ H hw1 hw2 hbx hby) ?_
    simp only [go_sem, ↓reduceIte, Nat.reduceEqDiff, Nat.reduceLeDiff, Nat.reduceAdd, Nat.reduceMul, Nat.reduceSub, Nat.reduceBEq, Nat.reduceGT, Nat.reduceLT, Int.reduceLE, Int.reduceLT, Int.reduceNeg, reduceCtorEq, Bool.not_eq_true', decide_eq_false_iff_not, e5]
    have ts := take_succ_eq hlt (show i < ys.length by omega) [] ht
    refine ⟨fun hne => ?_, fun heq => ?_⟩
    · have : ¬ xs = ys := fun e => hne (by rw [e])
      simp [this]
    · rw [w64_id (by omega) (by omega)]
      exact ⟨Hold.mk ⟨rfl, i + 1, by simp only [go_sem, ↓reduceIte, Nat.reduceEqDiff, Nat.reduceLeDiff, Nat.reduceAdd, Nat.reduceMul, Nat.reduceSub, Nat.reduceBEq, Nat.reduceGT, Nat.reduceLT, Int.reduceLE, Int.reduceLT, Int.reduceNeg, reduceCtorEq, e0], by simp only [go_sem, ↓reduceIte, Nat.reduceEqDiff, Nat.reduceLeDiff, Nat.reduceAdd, Nat.reduceMul, Nat.reduceSub, Nat.reduceBEq, Nat.reduceGT, Nat.reduceLT, Int.reduceLE, Int.reduceLT, Int.reduceNeg, reduceCtorEq, e1], by simp only [go_sem, ↓reduceIte, Nat.reduceEqDiff, Nat.reduceLeDiff, Nat.reduceAdd, Nat.reduceMul, Nat.reduceSub, Nat.reduceBEq, Nat.reduceGT, Nat.reduceLT, Int.reduceLE, Int.reduceLT, Int.reduceNeg, reduceCtorEq]; rfl, by omega, ts.2 heq⟩, by omega⟩
  · have c1 : ¬ (i : Int) < xs.length := by omega
    simp only [go_sem, ↓reduceIte, Nat.reduceEqDiff, Nat.reduceLeDiff, Nat.reduceAdd, Nat.reduceMul, Nat.reduceSub, Nat.reduceBEq, Nat.reduceGT, Nat.reduceLT, Int.reduceLE, Int.reduceLT, Int.reduceNeg, reduceCtorEq, c15_L0, e0, e1, e5, c1]
    have : i = xs.length := by omega
    subst this
    rw [List.take_of_length_le (Nat.le_refl _), hlen, List.take_of_length_le (Nat.le_refl _)] at ht
    simp [ht]

/-- Payloads that may be, at most 40 of them. -/
def clipL (l : List (List Int)) : List (List Int) := (l.take 40).map (·.take 1024)
theorem ints_take {H : Heap} {e : TypeId} {k : IntKind} {xs : List Int} {a : Option Addr} {len cap m : Nat} (h : Ints H e k (.slice a len cap) xs) (hm : m ≤ len) : Ints H e k (.slice a m cap) (xs.take m) := by
  have hc := Sl.lecap h
  have := Sl.sub h (l := 0) (h := m) (m := cap) (by omega) hm (by omega)
  simp only [Nat.zero_mul, Nat.sub_zero, Nat.mul_one, List.drop_zero] at this
  have ea : (if cap = 0 then a else Option.map (·.add 0) a) = a := by
    split
    · rfl
    · cases a <;> simp [Addr.add]
  rw [ea] at this
  unfold Ints
  rw [List.map_take]
  exact this
theorem hget_lt {H : Heap} {b o : Nat} {v : Value} (h : hget H b o = some v) : b < H.size := by
  rcases Nat.lt_or_ge b H.size with hb | hb
  · exact hb
  · unfold hget at h
    rw [Array.getElem?_eq_none hb] at h
    cases h
theorem clipL_take {l : List (List Int)} {i : Nat} (hi : i < l.length) (h4 : i < 40) : clipL (l.take (i + 1)) = clipL (l.take i) ++ [(l.getD i []).take 1024] := by
  unfold clipL
  rw [List.take_take, List.take_take, Nat.min_eq_right (by omega), Nat.min_eq_right (by omega), List.take_succ_eq_append_getElem hi, List.map_append]
  simp [List.getD_eq_getElem?_getD, List.getElem?_eq_getElem hi]
theorem clipL_end {l : List (List Int)} {i : Nat} (h : i = l.length ∨ i = 40) : clipL (l.take i) = clipL l := by
  rcases h with rfl | rfl
  · rw [List.take_length]
  · unfold clipL
    rw [List.take_take]
    simp
set_option maxHeartbeats 800000 in
theorem F11 (v : Value) (l : List (List Int)) {H0 H : Heap} (x0 : Ext H0 H) (hv : Lists H0 22 5 v l) :
    Fun Tryd.prog 11 #[v] H (fun r H' => ∃ vs, V.Own H' H.size 22 1 r vs ∧ All2 (fun u xs => Ints H0 5 .u8 u xs) vs (clipL l) ∧ Ext H H') := by
  obtain ⟨a, c, rfl⟩ := hv.form
  refine fun_of mixed (args := [_]) Tryd.func11 Tryd.ntmps11 b11 r11 rfl ?_
  simp only [go_sem, ↓reduceIte, Nat.reduceEqDiff, Nat.reduceLeDiff, Nat.reduceAdd, Nat.reduceMul, Nat.reduceSub, Nat.reduceBEq, Nat.reduceGT, Nat.reduceLT, Int.reduceLE, Int.reduceLT, Int.reduceNeg, reduceCtorEq]
  refine LoopI.by mixed (fun ρ H' => ∃ (i : Nat) (v : Value) (vs : List Value), ρ 0 = .slice a l.length c ∧ ρ 3 = v ∧ ρ 4 = .int .i64 i ∧ i ≤ l.length ∧ i ≤ 40 ∧ V.Own H' H.size 22 1 v vs ∧ All2 (fun u xs => Ints H0 5 .u8 u xs) vs (clipL (l.take i)) ∧ Ext H H') (fun ρ _ => l.length - (iof (ρ 4)).toNat) ?_ ?_
  · exact ⟨0, .slice none 0 0, [], by simp only [go_sem, ↓reduceIte, Nat.reduceEqDiff, Nat.reduceLeDiff, Nat.reduceAdd, Nat.reduceMul, Nat.reduceSub, Nat.reduceBEq, Nat.reduceGT, Nat.reduceLT, Int.reduceLE, Int.reduceLT, Int.reduceNeg, reduceCtorEq], by simp only [go_sem, ↓reduceIte, Nat.reduceEqDiff, Nat.reduceLeDiff, Nat.reduceAdd, Nat.reduceMul, Nat.reduceSub, Nat.reduceBEq, Nat.reduceGT, Nat.reduceLT, Int.reduceLE, Int.reduceLT, Int.reduceNeg, reduceCtorEq], by simp only [go_sem, ↓reduceIte, Nat.reduceEqDiff, Nat.reduceLeDiff, Nat.reduceAdd, Nat.reduceMul, Nat.reduceSub, Nat.reduceBEq, Nat.reduceGT, Nat.reduceLT, Int.reduceLE, Int.reduceLT, Int.reduceNeg, reduceCtorEq]; rfl, by omega, by omega, .inl ⟨rfl, rfl⟩, trivial, Upto.refl _ _⟩
  rintro ρ H1 ⟨i, v, vs, e0, e3, e4, hi, h40, ho, ha, x1⟩
  obtain ⟨oa, ol, oc, rfl⟩ := ho.sl.form
  by_cases c1 : i < l.length
  · have c1' : (i : Int) < l.length := by omega
    by_cases c2 : i < 40
    · have c2' : (i : Int) < 40 := by omega
      obtain ⟨b, o, rfl⟩ := hv.at c1
      obtain ⟨w0, g0, hw0⟩ := hv.get c1
      have hbl : b < H0.size := hget_lt g0
      have g1 := ((Upto.ext x0 x0.size x1).hget (o := o + i) hbl).trans g0
      obtain ⟨wa, wc, rfl⟩ := hw0.form
      have em : (if (1024 : Int) < (l.getD i []).length then (1024 : Int) else (l.getD i []).length) = ((min (l.getD i []).length 1024 : Nat) : Int) := by omega
      have wcap := Sl.lecap hw0
      have ew : (if wc = 0 then wa else Option.map (fun x => x) wa) = wa := by cases wa <;> simp
      simp only [c11_L0, go_sem, ↓reduceIte, Nat.reduceEqDiff, Nat.reduceLeDiff, Nat.reduceAdd, Nat.reduceMul, Nat.reduceSub, Nat.reduceBEq, Nat.reduceGT, Nat.reduceLT, Int.reduceLE, Int.reduceLT, Int.reduceNeg, reduceCtorEq, e0, e3, e4, c1', c2', g1]
      rw [em]
      simp only [ew, Int.toNat_natCast]
      refine ⟨by omega, by omega, ⟨by omega, by omega⟩, Ext.push _, ?_⟩
      have e5 := ha.length
      have ecl : (clipL (l.take i)).length ≤ 40 := by unfold clipL; simp; omega
      refine RunI.by (append_lit ty23 ty22 rfl (by decide) ho (ys := [.slice wa (min (l.getD i []).length 1024) wc]) (m := 1) rfl rfl (n := vs.length + 1) (by simp) (by omega) (by omega) x1.size) ?_
      rintro v2 H2 ⟨o2, gr, _⟩
      have x2 : Ext H H2 := gr.upto ho x1.size |> fun h => Upto.trans x1 h
      have e6 : IntKind.i64.wrap ((i : Int) + 1) = ((i + 1 : Nat) : Int) := by rw [w64_id (by omega) (by omega)]; omega
      have hin : Ints H0 5 .u8 (.slice wa (min (l.getD i []).length 1024) wc) ((l.getD i []).take 1024) := by
        have h1 := ints_take hw0 (m := min (l.getD i []).length 1024) (by omega)
        rw [← List.take_take, List.take_of_length_le (l := (l.getD i []).take 1024) (by simp; omega)] at h1
        exact h1
      simp only [go_sem, ↓reduceIte, Nat.reduceEqDiff, Nat.reduceLeDiff, Nat.reduceAdd, Nat.reduceMul, Nat.reduceSub, Nat.reduceBEq, Nat.reduceGT, Nat.reduceLT, Int.reduceLE, Int.reduceLT, Int.reduceNeg, reduceCtorEq, e0, e4, e6]
      refine ⟨Hold.mk ⟨i + 1, v2, _, by simp only [go_sem, ↓reduceIte, Nat.reduceEqDiff, Nat.reduceLeDiff, Nat.reduceAdd, Nat.reduceMul, Nat.reduceSub, Nat.reduceBEq, Nat.reduceGT, Nat.reduceLT, Int.reduceLE, Int.reduceLT, Int.reduceNeg, reduceCtorEq, e0], by simp only [go_sem, ↓reduceIte, Nat.reduceEqDiff, Nat.reduceLeDiff, Nat.reduceAdd, Nat.reduceMul, Nat.reduceSub, Nat.reduceBEq, Nat.reduceGT, Nat.reduceLT, Int.reduceLE, Int.reduceLT, Int.reduceNeg, reduceCtorEq], by simp only [go_sem, ↓reduceIte, Nat.reduceEqDiff, Nat.reduceLeDiff, Nat.reduceAdd, Nat.reduceMul, Nat.reduceSub, Nat.reduceBEq, Nat.reduceGT, Nat.reduceLT, Int.reduceLE, Int.reduceLT, Int.reduceNeg, reduceCtorEq], by omega, by omega, o2, ?_, x2⟩, ?_⟩
      · rw [clipL_take c1 c2]
        exact All2.snoc (R := fun (u : Value) (xs : List Int) => Ints H0 5 .u8 u xs) hin ha
      · omega
    · have c2' : ¬ (i : Int) < 40 := by omega
      simp only [c11_L0, go_sem, ↓reduceIte, Nat.reduceEqDiff, Nat.reduceLeDiff, Nat.reduceAdd, Nat.reduceMul, Nat.reduceSub, Nat.reduceBEq, Nat.reduceGT, Nat.reduceLT, Int.reduceLE, Int.reduceLT, Int.reduceNeg, reduceCtorEq, e0, e3, e4, c1', c2']
      exact ⟨vs, ho, by rw [← clipL_end (.inr (by omega : i = 40))]; exact ha, x1⟩
  · have c1' : ¬ (i : Int) < l.length := by omega
    simp only [c11_L0, go_sem, ↓reduceIte, Nat.reduceEqDiff, Nat.reduceLeDiff, Nat.reduceAdd, Nat.reduceMul, Nat.reduceSub, Nat.reduceBEq, Nat.reduceGT, Nat.reduceLT, Int.reduceLE, Int.reduceLT, Int.reduceNeg, reduceCtorEq, e0, e3, e4, c1']
    exact ⟨vs, ho, by rw [← clipL_end (.inl (by omega : i = l.length))]; exact ha, x1⟩
theorem flat_take {l : List (List Int)} {i : Nat} (hi : i < l.length) : (l.take (i + 1)).flatten = (l.take i).flatten ++ l.getD i [] := by
  rw [List.take_succ_eq_append_getElem hi, List.flatten_append]
  simp [List.getD_eq_getElem?_getD, List.getElem?_eq_getElem hi]
theorem flat_len {l : List (List Int)} {m : Nat} (hm : ∀ x ∈ l, x.length ≤ m) : l.flatten.length ≤ l.length * m := by
  induction l with
  | nil => simp
  | cons x l ih =>
    have h1 := hm x List.mem_cons_self
    have h2 := ih fun y hy => hm y (List.mem_cons_of_mem _ hy)
    simp only [List.flatten_cons, List.length_append, List.length_cons, Nat.succ_mul]
    omega
set_option maxHeartbeats 800000 in
theorem F27 {u v : Value} {hd : List Int} {l : List (List Int)} {H : Heap} (hu : Ints H 5 .u8 u hd) (hv : Lists H 22 5 v l) (hb : Byt hd) (hbl : ∀ x ∈ l, Byt x) (h1 : hd.length ≤ 1024) (h2 : ∀ x ∈ l, x.length ≤ 1024) (h3 : l.length ≤ 40) :
    Fun Tryd.prog 27 #[u, v] H (fun r H' => r = .int .u32 (wI (crcW 0#32 (hd ++ l.flatten))) ∧ Ext H H') := by
  obtain ⟨a, c, rfl⟩ := hv.form
  obtain ⟨a', c', rfl⟩ := hu.form
  refine fun_of mixed (args := [_, _]) Tryd.func27 Tryd.ntmps27 b27 r27 rfl ?_
  simp only [go_sem, ↓reduceIte, Nat.reduceEqDiff, Nat.reduceLeDiff, Nat.reduceAdd, Nat.reduceMul, Nat.reduceSub, Nat.reduceBEq, Nat.reduceGT, Nat.reduceLT, Int.reduceLE, Int.reduceLT, Int.reduceNeg, reduceCtorEq]
  refine FunI.by (F51 _ hd _ hu (by omega)) ?_
  rintro w0 H0 ⟨ow, x0⟩
  simp only [go_sem, ↓reduceIte, Nat.reduceEqDiff, Nat.reduceLeDiff, Nat.reduceAdd, Nat.reduceMul, Nat.reduceSub, Nat.reduceBEq, Nat.reduceGT, Nat.reduceLT, Int.reduceLE, Int.reduceLT, Int.reduceNeg, reduceCtorEq]
  refine LoopI.by mixed (fun ρ H' => ∃ (i : Nat) (w : Value), ρ 1 = .slice a l.length c ∧ ρ 5 = w ∧ ρ 6 = .int .i64 i ∧ i ≤ l.length ∧ V.Own H' H.size 5 1 w ((hd ++ (l.take i).flatten).map (.int .u8)) ∧ Ext H H') (fun ρ _ => l.length - (iof (ρ 6)).toNat) ?_ ?_
  · exact ⟨0, w0, by simp only [go_sem, ↓reduceIte, Nat.reduceEqDiff, Nat.reduceLeDiff, Nat.reduceAdd, Nat.reduceMul, Nat.reduceSub, Nat.reduceBEq, Nat.reduceGT, Nat.reduceLT, Int.reduceLE, Int.reduceLT, Int.reduceNeg, reduceCtorEq], by simp only [go_sem, ↓reduceIte, Nat.reduceEqDiff, Nat.reduceLeDiff, Nat.reduceAdd, Nat.reduceMul, Nat.reduceSub, Nat.reduceBEq, Nat.reduceGT, Nat.reduceLT, Int.reduceLE, Int.reduceLT, Int.reduceNeg, reduceCtorEq], by simp only [go_sem, ↓reduceIte, Nat.reduceEqDiff, Nat.reduceLeDiff, Nat.reduceAdd, Nat.reduceMul, Nat.reduceSub, Nat.reduceBEq, Nat.reduceGT, Nat.reduceLT, Int.reduceLE, Int.reduceLT, Int.reduceNeg, reduceCtorEq]; rfl, by omega, by simpa using ow, x0⟩
  rintro ρ H1 ⟨i, w, e1, e5, e6, hi, ho, x1⟩
  obtain ⟨wa, wc, rfl⟩ := Ints.form (xs := hd ++ (l.take i).flatten) (k := .u8) ho.sl
  have hfl : (l.take i).flatten.length ≤ 40 * 1024 := by
    have := flat_len (l := l.take i) (m := 1024) fun x hx => h2 x (List.mem_of_mem_take hx)
    have h9 : (l.take i).length ≤ 40 := by simp; omega
    exact Nat.le_trans this (Nat.mul_le_mul_right _ h9)
  by_cases c1 : i < l.length
  · have c1' : (i : Int) < l.length := by omega
    obtain ⟨b, o, rfl⟩ := hv.at c1
    obtain ⟨w1, g1, hw1⟩ := (hv.ext x1).get c1
    obtain ⟨xa, xc, rfl⟩ := hw1.form
    have hlen : (l.getD i []).length ≤ 1024 := h2 _ (mem_getD c1 [])
    simp only [c27_L0, go_sem, ↓reduceIte, Nat.reduceEqDiff, Nat.reduceLeDiff, Nat.reduceAdd, Nat.reduceMul, Nat.reduceSub, Nat.reduceBEq, Nat.reduceGT, Nat.reduceLT, Int.reduceLE, Int.reduceLT, Int.reduceNeg, reduceCtorEq, e1, e5, e6, c1', g1]
    refine ⟨by omega, ?_⟩
    refine RunI.by (append_own (sz := 1) (by' := 1) ty22 ty5 rfl rfl rfl (by decide) ho hw1 (by intro u hu; obtain ⟨x, _, rfl⟩ := List.mem_map.1 hu; rfl) (n := (hd ++ (l.take i).flatten).length + (l.getD i []).length) (by simp only [List.length_map, Nat.mul_one]) (by simp only [List.length_append]; omega) (by simp only [List.length_append]; omega) x1.size) ?_
    rintro v2 H2 ⟨o2, bt, gr, _⟩
    have x2 : Ext H H2 := Upto.trans x1 (bt.upto (fun k hk => (ho.blk hk).1) x1.size)
    have e7 : IntKind.i64.wrap ((i : Int) + 1) = ((i + 1 : Nat) : Int) := by rw [w64_id (by omega) (by omega)]; omega
    simp only [go_sem, ↓reduceIte, Nat.reduceEqDiff, Nat.reduceLeDiff, Nat.reduceAdd, Nat.reduceMul, Nat.reduceSub, Nat.reduceBEq, Nat.reduceGT, Nat.reduceLT, Int.reduceLE, Int.reduceLT, Int.reduceNeg, reduceCtorEq, e1, e6, e7]
    refine ⟨Hold.mk ⟨i + 1, v2, by simp only [go_sem, ↓reduceIte, Nat.reduceEqDiff, Nat.reduceLeDiff, Nat.reduceAdd, Nat.reduceMul, Nat.reduceSub, Nat.reduceBEq, Nat.reduceGT, Nat.reduceLT, Int.reduceLE, Int.reduceLT, Int.reduceNeg, reduceCtorEq, e1], by simp only [go_sem, ↓reduceIte, Nat.reduceEqDiff, Nat.reduceLeDiff, Nat.reduceAdd, Nat.reduceMul, Nat.reduceSub, Nat.reduceBEq, Nat.reduceGT, Nat.reduceLT, Int.reduceLE, Int.reduceLT, Int.reduceNeg, reduceCtorEq], by simp only [go_sem, ↓reduceIte, Nat.reduceEqDiff, Nat.reduceLeDiff, Nat.reduceAdd, Nat.reduceMul, Nat.reduceSub, Nat.reduceBEq, Nat.reduceGT, Nat.reduceLT, Int.reduceLE, Int.reduceLT, Int.reduceNeg, reduceCtorEq], by omega, ?_, x2⟩, ?_⟩
    · rw [flat_take c1, ← List.append_assoc, List.map_append]
      exact o2
    · omega
  · have c1' : ¬ (i : Int) < l.length := by omega
    have ei : i = l.length := by omega
    subst ei
    rw [List.take_length] at ho hfl
    simp only [c27_L0, go_sem, ↓reduceIte, Nat.reduceEqDiff, Nat.reduceLeDiff, Nat.reduceAdd, Nat.reduceMul, Nat.reduceSub, Nat.reduceBEq, Nat.reduceGT, Nat.reduceLT, Int.reduceLE, Int.reduceLT, Int.reduceNeg, reduceCtorEq, e1, e5, e6, c1']
    refine FunI.by (F52 (bs := hd ++ l.flatten) (by rw [List.take_length]; exact ho.sl) ?_ (by rw [List.length_append]; omega)) ?_
    · intro x hx
      rcases List.mem_append.1 hx with hx | hx
      · exact hb x hx
      · obtain ⟨y, hy, hxy⟩ := List.mem_flatten.1 hx
        exact hbl y hy x hxy
    rintro _ _ ⟨rfl, rfl⟩
    obtain ⟨X, hX⟩ : ∃ X, X = wI (crcW 0#32 (hd ++ l.flatten)) := ⟨_, rfl⟩
    rw [← hX]
    simp only [go_sem, ↓reduceIte, Nat.reduceEqDiff, Nat.reduceLeDiff, Nat.reduceAdd, Nat.reduceMul, Nat.reduceSub, Nat.reduceBEq, Nat.reduceGT, Nat.reduceLT, Int.reduceLE, Int.reduceLT, Int.reduceNeg, reduceCtorEq]
    exact x1
end Go.Proofs.YtgpoldjpmcoppaaDoor
