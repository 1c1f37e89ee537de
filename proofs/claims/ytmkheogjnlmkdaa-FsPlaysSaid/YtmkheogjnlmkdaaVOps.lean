/- Calls in memory: a kind, two numbers, two names, bytes, numbers, which one. -/
import Derived.Test.YtmkheogjnlmkdaaVFsL
import Derived.Test.YtmkheogjnlmkdaaVByt
set_option linter.unusedSimpArgs false
set_option linter.unusedVariables false
set_option maxRecDepth 20000
namespace Go.V
open Go
/-- A call. -/
structure Cl where
  kind : Int
  a : Int
  b : Int
  n : Nm
  t : Nm
  d : List Int
  c : List Int
  o : Bool
structure ClV where
  x : Cl
  dv : Value
  cv : Value
def clC (y : ClV) : List Value := [.int .i64 y.x.kind, .int .i64 y.x.a, .int .i64 y.x.b, .string y.x.n, .string y.x.t, y.dv, y.cv, .bool y.x.o]
theorem clC_len (y : ClV) : (clC y).length = 8 := rfl
end Go.V
namespace Go.Proofs.Ytmkheogjnlmkdaa
open Go Go.V
-- 75: pithlaw8.Op
-- 3: int
-- 5: uint8
-- 62: []int
-- 78: pith/pithref.Ints
-- 80: pith/pithref.SameInts
structure ClOk (H : Heap) (y : ClV) : Prop where
  a : -9223372036854775808 ≤ y.x.a ∧ y.x.a < 9223372036854775808
  b : -9223372036854775808 ≤ y.x.b ∧ y.x.b < 9223372036854775808
  d : Ints H 5 .u8 y.dv y.x.d
  dB : Byt y.x.d
  c : Ints H 3 .i64 y.cv y.x.c
  cR : ∀ z ∈ y.x.c, -9223372036854775808 ≤ z ∧ z < 9223372036854775808
  cL : y.x.c.length ≤ 17592186043904
def Cls (H : Heap) (v : Value) (ys : List ClV) : Prop := Sl H 75 8 v (ys.flatMap clC) ∧ ∀ y ∈ ys, ClOk H y
theorem ClOk.ext {H H' : Heap} {y : ClV} (h : ClOk H y) (hx : Ext H H') : ClOk H' y := ⟨h.a, h.b, h.d.ext hx, h.dB, h.c.ext hx, h.cR, h.cL⟩
theorem Cls.ext {H H' : Heap} {v : Value} {ys : List ClV} (h : Cls H v ys) (hx : Ext H H') : Cls H' v ys := ⟨Sl.ext h.1 hx, fun y hy => (h.2 y hy).ext hx⟩
theorem cls_form {H : Heap} {v : Value} {ys : List ClV} (h : Cls H v ys) : ∃ a c, v = .slice a ys.length c := by
  obtain ⟨a, len, cap, rfl⟩ := Sl.form h.1
  have hl := Sl.length h.1
  have hfl : (ys.flatMap clC).length = ys.length * 8 := fl_len clC_len ys
  rw [hfl] at hl
  have : ys.length = len := by omega
  exact ⟨a, cap, by rw [this]⟩
theorem cls_at {H : Heap} {a : Option Addr} {c : Nat} {ys : List ClV} (h : Cls H (.slice a ys.length c) ys) {i : Nat} {y : ClV} (hi : ys[i]? = some y) :
    ∃ g o, a = some ⟨g, o, none⟩ ∧ ∀ j, j < 8 → hget H g (o + i * 8 + j) = (clC y)[j]? := by
  have hl := (List.getElem?_eq_some_iff.1 hi).1
  obtain ⟨g, o, rfl⟩ := Sl.at h.1 (by omega)
  refine ⟨g, o, rfl, fun j hj => ?_⟩
  have hfl : (ys.flatMap clC).length = ys.length * 8 := fl_len clC_len ys
  rw [Nat.add_assoc, Sl.get h.1 (i := i * 8 + j) (by omega)]
  exact fl_get clC_len ys i j y hi hj
theorem F78 (v : Value) (xs : List Int) (H : Heap) (hv : Ints H 3 .i64 v xs) (hl : xs.length ≤ 17592186043904) :
    Fun Try.prog 78 #[v] H (fun v' H' => Own H' H.size 3 1 v' (xs.map (.int .i64)) ∧ Ext H H') := by
  obtain ⟨a, c, rfl⟩ := hv.form
  refine fun_of mixed (args := [_]) Try.func78 Try.ntmps78 b78 r78 rfl ?_
  simp only [go_sem, ↓reduceIte, Nat.reduceEqDiff, Nat.reduceLeDiff, Nat.reduceAdd, Nat.reduceMul, Nat.reduceSub, Nat.reduceBEq, Nat.reduceGT, Nat.reduceLT, Int.reduceLE, Int.reduceLT, Int.reduceNeg, reduceCtorEq]
  refine ⟨by omega, by omega, by omega, ?_⟩
  refine LoopI.by mixed (fun ρ H' => ∃ (i : Nat) (v' : Value), ρ 0 = .slice a xs.length c ∧ ρ 3 = v' ∧ ρ 4 = .int .i64 i ∧ i ≤ xs.length ∧ Own H' H.size 3 1 v' ((xs.take i).map (.int .i64)) ∧ Ext H H') (fun ρ _ => xs.length - (iof (ρ 4)).toNat) ?_ ?_
  · refine ⟨0, _, by simp only [go_sem, ↓reduceIte, Nat.reduceEqDiff, Nat.reduceLeDiff, Nat.reduceAdd, Nat.reduceMul, Nat.reduceSub, Nat.reduceBEq, Nat.reduceGT, Nat.reduceLT, Int.reduceLE, Int.reduceLT, Int.reduceNeg, reduceCtorEq], rfl, by simp only [go_sem, ↓reduceIte, Nat.reduceEqDiff, Nat.reduceLeDiff, Nat.reduceAdd, Nat.reduceMul, Nat.reduceSub, Nat.reduceBEq, Nat.reduceGT, Nat.reduceLT, Int.reduceLE, Int.reduceLT, Int.reduceNeg, reduceCtorEq]; rfl, by omega, ?_, Ext.push _⟩
    have := Own.made (H := H) (B := H.size) (e := 3) (sz := 1) (l := 0) (c := xs.length) (z := .int .i64 0) (Nat.le_refl _) (by omega) (by omega)
    rw [Nat.mul_one, Nat.zero_mul, List.take_zero] at this
    simp only [go_sem, ↓reduceIte, Nat.reduceEqDiff, Nat.reduceLeDiff, Nat.reduceAdd, Nat.reduceMul, Nat.reduceSub, Nat.reduceBEq, Nat.reduceGT, Nat.reduceLT, Int.reduceLE, Int.reduceLT, Int.reduceNeg, reduceCtorEq]
    exact this
  rintro ρ H' ⟨i, v', e0, e3, e4, hi, ho, hx⟩
  by_cases hlt : i < xs.length
  · obtain ⟨b, o, rfl⟩ := hv.at hlt
    have g1 := (hv.ext hx).get hlt
    have c1 : (i : Int) < xs.length := by omega
    have c0 : (0 : Int) ≤ i := by omega
    simp only [go_sem, ↓reduceIte, Nat.reduceEqDiff, Nat.reduceLeDiff, Nat.reduceAdd, Nat.reduceMul, Nat.reduceSub, Nat.reduceBEq, Nat.reduceGT, Nat.reduceLT, Int.reduceLE, Int.reduceLT, Int.reduceNeg, reduceCtorEq, c78_L0, e0, e3, e4, c0, c1, g1]
    refine RunI.by (append_lit ty62 ty3 rfl (by decide) ho (ys := [.int .i64 (xs.getD i 0)]) (m := 1) rfl rfl (n := i + 1) (by simp; omega) (by omega) (by omega) hx.size) ?_
    rintro v2 H2 ⟨h1, h2, _⟩
    simp only [go_sem, ↓reduceIte, Nat.reduceEqDiff, Nat.reduceLeDiff, Nat.reduceAdd, Nat.reduceMul, Nat.reduceSub, Nat.reduceBEq, Nat.reduceGT, Nat.reduceLT, Int.reduceLE, Int.reduceLT, Int.reduceNeg, reduceCtorEq, e4]
    rw [w64_id (by omega) (by omega)]
    refine ⟨Hold.mk ⟨i + 1, v2, by simp only [go_sem, ↓reduceIte, Nat.reduceEqDiff, Nat.reduceLeDiff, Nat.reduceAdd, Nat.reduceMul, Nat.reduceSub, Nat.reduceBEq, Nat.reduceGT, Nat.reduceLT, Int.reduceLE, Int.reduceLT, Int.reduceNeg, reduceCtorEq, e0], by simp only [go_sem, ↓reduceIte, Nat.reduceEqDiff, Nat.reduceLeDiff, Nat.reduceAdd, Nat.reduceMul, Nat.reduceSub, Nat.reduceBEq, Nat.reduceGT, Nat.reduceLT, Int.reduceLE, Int.reduceLT, Int.reduceNeg, reduceCtorEq], by simp only [go_sem, ↓reduceIte, Nat.reduceEqDiff, Nat.reduceLeDiff, Nat.reduceAdd, Nat.reduceMul, Nat.reduceSub, Nat.reduceBEq, Nat.reduceGT, Nat.reduceLT, Int.reduceLE, Int.reduceLT, Int.reduceNeg, reduceCtorEq]; rfl, by omega, ?_, hx.trans (h2.upto ho hx.size)⟩, by omega⟩
    have e1 : xs.take (i + 1) = xs.take i ++ [xs.getD i 0] := by
      rw [List.take_succ_eq_append_getElem hlt]
      simp [List.getD_eq_getElem?_getD, List.getElem?_eq_getElem hlt]
    rw [e1, List.map_append]
    exact h1
  · have c1 : ¬ (i : Int) < xs.length := by omega
    simp only [go_sem, ↓reduceIte, Nat.reduceEqDiff, Nat.reduceLeDiff, Nat.reduceAdd, Nat.reduceMul, Nat.reduceSub, Nat.reduceBEq, Nat.reduceGT, Nat.reduceLT, Int.reduceLE, Int.reduceLT, Int.reduceNeg, reduceCtorEq, c78_L0, e0, e3, e4, c1]
    have : i = xs.length := by omega
    subst this
    rw [List.take_of_length_le (Nat.le_refl _)] at ho
    exact ⟨ho, hx⟩

theorem take_succ_eq {α : Type} {xs ys : List α} {i : Nat} (hx : i < xs.length) (hy : i < ys.length) (d : α) (h : xs.take i = ys.take i) : (xs.take (i + 1) = ys.take (i + 1)) ↔ xs.getD i d = ys.getD i d := by
  have e1 : xs.take (i + 1) = xs.take i ++ [xs[i]] := List.take_succ_eq_append_getElem hx
  have e2 : ys.take (i + 1) = ys.take i ++ [ys[i]] := List.take_succ_eq_append_getElem hy
  have g1 : xs.getD i d = xs[i] := by simp [List.getD_eq_getElem?_getD, List.getElem?_eq_getElem hx]
  have g2 : ys.getD i d = ys[i] := by simp [List.getD_eq_getElem?_getD, List.getElem?_eq_getElem hy]
  rw [e1, e2, h, g1, g2]
  constructor
  · intro hh
    have := List.append_cancel_left hh
    simpa using this
  · intro hh
    rw [hh]
theorem F80 (v u : Value) (xs ys : List Int) (H : Heap) (hv : Ints H 3 .i64 v xs) (hu : Ints H 3 .i64 u ys) (hl : xs.length ≤ 140737488350000) :
    Fun Try.prog 80 #[v, u] H (fun r H' => r = .bool (decide (xs = ys)) ∧ H = H') := by
  obtain ⟨a, c, rfl⟩ := hv.form
  obtain ⟨a', c', rfl⟩ := hu.form
  refine fun_of mixed (args := [_, _]) Try.func80 Try.ntmps80 b80 r80 rfl ?_
  simp only [go_sem, ↓reduceIte, Nat.reduceEqDiff, Nat.reduceLeDiff, Nat.reduceAdd, Nat.reduceMul, Nat.reduceSub, Nat.reduceBEq, Nat.reduceGT, Nat.reduceLT, Int.reduceLE, Int.reduceLT, Int.reduceNeg, reduceCtorEq]
  refine ⟨fun h => ?_, fun h => ?_⟩
  · have : ¬ xs = ys := fun e => h (by rw [e])
    simp [this]
  refine LoopI.by mixed (fun ρ H' => H = H' ∧ ∃ i : Nat, ρ 0 = .slice a xs.length c ∧ ρ 1 = .slice a' ys.length c' ∧ ρ 5 = .int .i64 i ∧ i ≤ xs.length ∧ xs.take i = ys.take i) (fun ρ _ => xs.length - (iof (ρ 5)).toNat) ?_ ?_
  · exact ⟨rfl, 0, by simp only [go_sem, ↓reduceIte, Nat.reduceEqDiff, Nat.reduceLeDiff, Nat.reduceAdd, Nat.reduceMul, Nat.reduceSub, Nat.reduceBEq, Nat.reduceGT, Nat.reduceLT, Int.reduceLE, Int.reduceLT, Int.reduceNeg, reduceCtorEq], by simp only [go_sem, ↓reduceIte, Nat.reduceEqDiff, Nat.reduceLeDiff, Nat.reduceAdd, Nat.reduceMul, Nat.reduceSub, Nat.reduceBEq, Nat.reduceGT, Nat.reduceLT, Int.reduceLE, Int.reduceLT, Int.reduceNeg, reduceCtorEq], by simp only [go_sem, ↓reduceIte, Nat.reduceEqDiff, Nat.reduceLeDiff, Nat.reduceAdd, Nat.reduceMul, Nat.reduceSub, Nat.reduceBEq, Nat.reduceGT, Nat.reduceLT, Int.reduceLE, Int.reduceLT, Int.reduceNeg, reduceCtorEq]; rfl, by omega, by simp⟩
  rintro ρ _ ⟨rfl, i, e0, e1, e5, hi, ht⟩
  have hlen : xs.length = ys.length := by omega
  by_cases hlt : i < xs.length
  · obtain ⟨b, o, rfl⟩ := hv.at hlt
    obtain ⟨b', o', rfl⟩ := hu.at (show i < ys.length by omega)
    have g1 := hv.get hlt
    have g2 := hu.get (show i < ys.length by omega)
    have c1 : (i : Int) < xs.length := by omega
    have c2 : (i : Int) < ys.length := by omega
    have c0 : (0 : Int) ≤ i := by omega
    have ts := take_succ_eq hlt (show i < ys.length by omega) 0 ht
    simp only [go_sem, ↓reduceIte, Nat.reduceEqDiff, Nat.reduceLeDiff, Nat.reduceAdd, Nat.reduceMul, Nat.reduceSub, Nat.reduceBEq, Nat.reduceGT, Nat.reduceLT, Int.reduceLE, Int.reduceLT, Int.reduceNeg, reduceCtorEq, c80_L0, e0, e1, e5, c0, c1, c2, g1, g2]
    refine ⟨fun hne => ?_, fun heq => ?_⟩
    · have : ¬ xs = ys := fun e => hne (by rw [e])
      simp [this]
    · rw [w64_id (by omega) (by omega)]
      exact ⟨Hold.mk ⟨rfl, i + 1, by simp only [go_sem, ↓reduceIte, Nat.reduceEqDiff, Nat.reduceLeDiff, Nat.reduceAdd, Nat.reduceMul, Nat.reduceSub, Nat.reduceBEq, Nat.reduceGT, Nat.reduceLT, Int.reduceLE, Int.reduceLT, Int.reduceNeg, reduceCtorEq, e0], by simp only [go_sem, ↓reduceIte, Nat.reduceEqDiff, Nat.reduceLeDiff, Nat.reduceAdd, Nat.reduceMul, Nat.reduceSub, Nat.reduceBEq, Nat.reduceGT, Nat.reduceLT, Int.reduceLE, Int.reduceLT, Int.reduceNeg, reduceCtorEq, e1], by simp only [go_sem, ↓reduceIte, Nat.reduceEqDiff, Nat.reduceLeDiff, Nat.reduceAdd, Nat.reduceMul, Nat.reduceSub, Nat.reduceBEq, Nat.reduceGT, Nat.reduceLT, Int.reduceLE, Int.reduceLT, Int.reduceNeg, reduceCtorEq]; rfl, by omega, ts.2 heq⟩, by omega⟩
  · have c1 : ¬ (i : Int) < xs.length := by omega
    simp only [go_sem, ↓reduceIte, Nat.reduceEqDiff, Nat.reduceLeDiff, Nat.reduceAdd, Nat.reduceMul, Nat.reduceSub, Nat.reduceBEq, Nat.reduceGT, Nat.reduceLT, Int.reduceLE, Int.reduceLT, Int.reduceNeg, reduceCtorEq, c80_L0, e0, e1, e5, c1]
    have : i = xs.length := by omega
    subst this
    rw [List.take_of_length_le (Nat.le_refl _), hlen, List.take_of_length_le (Nat.le_refl _)] at ht
    simp [ht]
end Go.Proofs.Ytmkheogjnlmkdaa
