/- varint.form reads one number at the head of the bytes, as vform says. -/
import Derived.Test.YtgigigchjnnonaaGreatDoorVRead
set_option linter.unusedSimpArgs false
set_option linter.unusedVariables false
set_option maxRecDepth 20000
namespace Go.Proofs.YtgigigchjnnonaaGreatDoor
open Go Go.V

def vval (xs : List Int) : Int := xs.foldl (fun a x => a * 128 + x % 128) 0
/-- How many of the first n are 128 or more. -/
def lead : Nat → List Int → Nat
  | 0, _ => 0
  | _ + 1, [] => 0
  | n + 1, x :: xs => if 128 ≤ x then lead n xs + 1 else 0
theorem lead_eq : ∀ {n : Nat} {xs : List Int} {i : Nat}, (∀ k, k < i → 128 ≤ xs.getD k 0) → (i = n ∨ i = xs.length ∨ xs.getD i 0 < 128) → i ≤ n → i ≤ xs.length → lead n xs = i
  | 0, xs, i, h, h1, h2, h3 => by simp [lead]; omega
  | n + 1, [], i, h, h1, h2, h3 => by
    simp at h3
    simp [lead, h3]
  | n + 1, x :: xs, 0, h, h1, h2, h3 => by
    have : x < 128 := by simpa using h1
    simp only [lead]
    rw [if_neg (by omega)]
  | n + 1, x :: xs, i + 1, h, h1, h2, h3 => by
    have hx : 128 ≤ x := by simpa using h 0 (by omega)
    simp only [lead]
    rw [if_pos hx, lead_eq (i := i) (fun k hk => by simpa using h (k + 1) (by omega)) (by simpa using h1) (by omega) (by simpa using h3)]
theorem vval_snoc (xs : List Int) (x : Int) : vval (xs ++ [x]) = vval xs * 128 + x % 128 := by simp [vval]
theorem vval_lt (xs : List Int) : 0 ≤ vval xs ∧ vval xs < 128 ^ xs.length := by
  obtain ⟨ys, rfl⟩ : ∃ ys : List Int, xs = ys.reverse := ⟨xs.reverse, by simp⟩
  induction ys with
  | nil => simp [vval]
  | cons y ys ih =>
    rw [List.reverse_cons, vval_snoc, List.length_append, List.length_singleton, Int.pow_succ]
    omega
theorem vval_lt8 {xs : List Int} (h : xs.length ≤ 8) : 0 ≤ vval xs ∧ vval xs < 72057594037927936 := by
  obtain ⟨h0, h1⟩ := vval_lt xs
  refine ⟨h0, Int.lt_of_lt_of_le h1 ?_⟩
  have : xs.length = 0 ∨ xs.length = 1 ∨ xs.length = 2 ∨ xs.length = 3 ∨ xs.length = 4 ∨ xs.length = 5 ∨ xs.length = 6 ∨ xs.length = 7 ∨ xs.length = 8 := by omega
  rcases this with h | h | h | h | h | h | h | h | h <;> rw [h] <;> decide
/-- A number's form at the head of the bytes: its value, how many bytes it takes, what is wrong. -/
def vform (xs : List Int) : Int × Int × Int :=
  if xs.head? = some 128 then (0, 0, 11)
  else if lead 9 xs = 9 then (0, 0, 12)
  else if lead 9 xs = xs.length then (0, 0, 10)
  else (vval (xs.take (lead 9 xs + 1)), (lead 9 xs : Int) + 1, 0)
theorem or_low {a b : Int} (ha : 0 ≤ a) (ha' : a < 72057594037927936) (hb : 0 ≤ b) (hb' : b < 128) : ibits .or .i64 (a * 128) b = a * 128 + b := by
  obtain ⟨n, rfl⟩ := Int.eq_ofNat_of_zero_le ha
  obtain ⟨m, rfl⟩ := Int.eq_ofNat_of_zero_le hb
  have hm : m < 2 ^ 7 := by omega
  have key := Nat.two_pow_add_eq_or_of_lt hm n
  have e : (n : Int) * 128 + (m : Int) = ((2 ^ 7 * n + m : Nat) : Int) := by simp; omega
  have e2 : (n : Int) * 128 = ((2 ^ 7 * n : Nat) : Int) := by simp; omega
  have hb1 : 2 ^ 7 * n ||| m < 9223372036854775808 := by rw [← key]; omega
  rw [e, e2, key]
  simp only [ibits, BitVec.ofInt_natCast, BitVec.toNat_or, BitVec.toNat_ofNat]
  rw [Nat.mod_eq_of_lt (show 2 ^ 7 * n < 2 ^ IntKind.i64.bits by simp [IntKind.bits]; omega), Nat.mod_eq_of_lt (show m < 2 ^ IntKind.i64.bits by simp [IntKind.bits]; omega)]
  exact w64_id (by omega) (by omega)

set_option maxHeartbeats 800000 in
set_option maxRecDepth 20000 in
theorem F207 (v : Value) (xs : List Int) (H : Heap) (hv : Ints H 5 .u8 v xs) (hw : Byt xs) :
    Fun Tryz.prog 207 #[v] H (fun r H' => r = .tuple #[.int .i64 (vform xs).1, .int .i64 (vform xs).2.1, .int .i64 (vform xs).2.2] ∧ H = H') := by
  obtain ⟨ad, cap, rfl⟩ := hv.form
  obtain ⟨m, hm⟩ : ∃ m : Nat, m = min xs.length 9 := ⟨_, rfl⟩
  have loop : ∀ (n : Nat) (ρ : Env) (Q : Post) (ad' : Option Addr) (cap' : Nat), ρ 0 = .slice ad xs.length cap → ρ 24 = .slice ad' m cap' → Ints H 5 .u8 (.slice ad' m cap') (xs.take m) → ρ 25 = .int .i64 m → ρ 26 = .int .i64 0 → ρ 5 = .int .i64 0 →
      (∀ (ρ' : Env) (i : Nat), i < m → (∀ k, k < i → 128 ≤ xs.getD k 0) → xs.getD i 0 < 128 → ρ' 2 = .int .i64 (vval (xs.take (i + 1))) → ρ' 3 = .int .i64 ((i : Int) + 1) → ρ' 4 = .int .i64 0 → Q .ret ρ' H) →
      (∀ ρ' : Env, ρ' 0 = .slice ad xs.length cap → (∀ k, k < m → 128 ≤ xs.getD k 0) → Q (.exit 0) ρ' H) → @LoopI Tryz.prog n c207_L0 ρ H ⟨Q⟩ := by
    intro n ρ Q ad' cap' e0 e24 hs e25 e26 e5 hret hexit
    refine LoopI.by mixed (fun ρ H' => ∃ i : Nat, ρ 0 = .slice ad xs.length cap ∧ ρ 24 = .slice ad' m cap' ∧ ρ 25 = .int .i64 m ∧ ρ 26 = .int .i64 i ∧ ρ 5 = .int .i64 (vval (xs.take i)) ∧ i ≤ m ∧ (∀ k, k < i → 128 ≤ xs.getD k 0) ∧ H = H') (fun ρ _ => m - (iof (ρ 26)).toNat) ?_ ?_
    · exact ⟨0, e0, e24, e25, e26, e5, by omega, by omega, rfl⟩
    rintro ρ _ ⟨i, e0, e24, e25, e26, e5, hi, hk, rfl⟩
    by_cases hlt : i < m
    · have c1 : (i : Int) < m := by omega
      have c0 : (0 : Int) ≤ i := by omega
      obtain ⟨sb, so, rfl⟩ := hs.at (i := i) (by simp; omega)
      have gi := hs.get (i := i) (by simp; omega)
      have et : (xs.take m).getD i 0 = xs.getD i 0 := by simp [List.getD_eq_getElem?_getD, List.getElem?_take, hlt]
      rw [et] at gi
      have hx := hw _ (mem_getD (xs := xs) (i := i) (by omega) 0)
      have hv8 := vval_lt8 (xs := xs.take i) (by simp; omega)
      have hsh : ishl .i64 (vval (xs.take i)) 7 = vval (xs.take i) * 128 := by
        rw [ishl_eq (by omega) (by decide)]
        show IntKind.i64.wrap (vval (xs.take i) * 128) = _
        exact w64_id (by omega) (by omega)
      have ha : ibits .and .u8 (xs.getD i 0) 127 = xs.getD i 0 % 128 := and127 hx.1 hx.2
      have hwr : IntKind.i64.wrap (xs.getD i 0 % 128) = xs.getD i 0 % 128 := w64_id (by omega) (by omega)
      have hor : ibits .or .i64 (vval (xs.take i) * 128) (xs.getD i 0 % 128) = vval (xs.take (i + 1)) := by
        rw [or_low hv8.1 hv8.2 (by omega) (by omega), take_succ_getD (by omega) 0, vval_snoc]
      have hw1 : IntKind.i64.wrap ((i : Int) + 1) = (i : Int) + 1 := w64_id (by omega) (by omega)
      by_cases h128 : xs.getD i 0 < 128
      · simp only [go_sem, ↓reduceIte, Nat.reduceEqDiff, Nat.reduceLeDiff, Nat.reduceAdd, Nat.reduceMul, Nat.reduceSub, Nat.reduceBEq, Nat.reduceGT, Nat.reduceLT, Int.reduceLE, Int.reduceLT, Int.reduceNeg, reduceCtorEq, c207_L0, e0, e24, e25, e26, e5, c0, c1, gi, hsh, ha, hwr, hor, hw1, h128]
        exact hret _ i hlt hk h128 (by simp only [go_sem, ↓reduceIte, Nat.reduceEqDiff, Nat.reduceLeDiff, Nat.reduceAdd, Nat.reduceMul, Nat.reduceSub, Nat.reduceBEq, Nat.reduceGT, Nat.reduceLT, Int.reduceLE, Int.reduceLT, Int.reduceNeg, reduceCtorEq]) (by simp only [go_sem, ↓reduceIte, Nat.reduceEqDiff, Nat.reduceLeDiff, Nat.reduceAdd, Nat.reduceMul, Nat.reduceSub, Nat.reduceBEq, Nat.reduceGT, Nat.reduceLT, Int.reduceLE, Int.reduceLT, Int.reduceNeg, reduceCtorEq]) (by simp only [go_sem, ↓reduceIte, Nat.reduceEqDiff, Nat.reduceLeDiff, Nat.reduceAdd, Nat.reduceMul, Nat.reduceSub, Nat.reduceBEq, Nat.reduceGT, Nat.reduceLT, Int.reduceLE, Int.reduceLT, Int.reduceNeg, reduceCtorEq])
      · simp only [go_sem, ↓reduceIte, Nat.reduceEqDiff, Nat.reduceLeDiff, Nat.reduceAdd, Nat.reduceMul, Nat.reduceSub, Nat.reduceBEq, Nat.reduceGT, Nat.reduceLT, Int.reduceLE, Int.reduceLT, Int.reduceNeg, reduceCtorEq, c207_L0, e0, e24, e25, e26, e5, c0, c1, gi, hsh, ha, hwr, hor, hw1, h128]
        refine ⟨Hold.mk ⟨i + 1, by simp only [go_sem, ↓reduceIte, Nat.reduceEqDiff, Nat.reduceLeDiff, Nat.reduceAdd, Nat.reduceMul, Nat.reduceSub, Nat.reduceBEq, Nat.reduceGT, Nat.reduceLT, Int.reduceLE, Int.reduceLT, Int.reduceNeg, reduceCtorEq, e0], by simp only [go_sem, ↓reduceIte, Nat.reduceEqDiff, Nat.reduceLeDiff, Nat.reduceAdd, Nat.reduceMul, Nat.reduceSub, Nat.reduceBEq, Nat.reduceGT, Nat.reduceLT, Int.reduceLE, Int.reduceLT, Int.reduceNeg, reduceCtorEq, e24], by simp only [go_sem, ↓reduceIte, Nat.reduceEqDiff, Nat.reduceLeDiff, Nat.reduceAdd, Nat.reduceMul, Nat.reduceSub, Nat.reduceBEq, Nat.reduceGT, Nat.reduceLT, Int.reduceLE, Int.reduceLT, Int.reduceNeg, reduceCtorEq, e25], by simp only [go_sem, ↓reduceIte, Nat.reduceEqDiff, Nat.reduceLeDiff, Nat.reduceAdd, Nat.reduceMul, Nat.reduceSub, Nat.reduceBEq, Nat.reduceGT, Nat.reduceLT, Int.reduceLE, Int.reduceLT, Int.reduceNeg, reduceCtorEq]; rfl, by simp only [go_sem, ↓reduceIte, Nat.reduceEqDiff, Nat.reduceLeDiff, Nat.reduceAdd, Nat.reduceMul, Nat.reduceSub, Nat.reduceBEq, Nat.reduceGT, Nat.reduceLT, Int.reduceLE, Int.reduceLT, Int.reduceNeg, reduceCtorEq], by omega, ?_, rfl⟩, by omega⟩
        intro k hk'
        by_cases hki : k = i
        · subst hki; omega
        · exact hk k (by omega)
    · have c1 : ¬ (i : Int) < m := by omega
      have him : i = m := by omega
      subst him
      simp only [go_sem, ↓reduceIte, Nat.reduceEqDiff, Nat.reduceLeDiff, Nat.reduceAdd, Nat.reduceMul, Nat.reduceSub, Nat.reduceBEq, Nat.reduceGT, Nat.reduceLT, Int.reduceLE, Int.reduceLT, Int.reduceNeg, reduceCtorEq, c207_L0, e0, e24, e25, e26, e5, c1]
      exact hexit _ (by simp only [go_sem, ↓reduceIte, Nat.reduceEqDiff, Nat.reduceLeDiff, Nat.reduceAdd, Nat.reduceMul, Nat.reduceSub, Nat.reduceBEq, Nat.reduceGT, Nat.reduceLT, Int.reduceLE, Int.reduceLT, Int.reduceNeg, reduceCtorEq, e0]) hk
  have hmin : (if (9 : Int) < xs.length then (9 : Int) else xs.length) = (m : Int) := by split <;> omega
  have hsub : Ints H 5 .u8 (.slice (if m = 0 then ad else ad) m m) (xs.take m) := by
    have h := Sl.sub (l := 0) (h := m) (m := m) hv (by omega) (by omega) (by omega)
    simp only [Nat.zero_mul, List.drop_zero, Nat.sub_zero, Nat.mul_one, ← List.map_take] at h
    have e : ad.map (fun x => x.add 0) = ad := by cases ad <;> rfl
    rw [e] at h
    exact h
  rw [ite_self] at hsub
  have fret : xs.head? ≠ some 128 → ∀ i : Nat, i < m → (∀ k, k < i → 128 ≤ xs.getD k 0) → xs.getD i 0 < 128 → vform xs = (vval (xs.take (i + 1)), (i : Int) + 1, 0) := by
    intro hh i hi hk h128
    have hlead : lead 9 xs = i := lead_eq hk (.inr (.inr h128)) (by omega) (by omega)
    unfold vform
    rw [if_neg hh, hlead, if_neg (by omega), if_neg (by omega)]
  have fexit : xs.head? ≠ some 128 → (∀ k, k < m → 128 ≤ xs.getD k 0) → vform xs = if (9 : Int) ≤ xs.length then (0, 0, 12) else (0, 0, 10) := by
    intro hh hk
    have hlead : lead 9 xs = m := lead_eq hk (by omega) (by omega) (by omega)
    unfold vform
    rw [if_neg hh, hlead]
    split
    · rw [if_pos (by omega)]
    · rw [if_pos (by omega), if_neg (by omega)]
  refine fun_of mixed (args := [_]) Tryz.func207 Tryz.ntmps207 b207 r207 rfl ?_
  by_cases hl : 0 < xs.length
  · obtain ⟨b, o, rfl⟩ := hv.at hl
    have g0 := hv.get hl
    have c0 : (0 : Int) < xs.length := by omega
    have hcap := hv.lecap
    rw [Nat.add_zero] at g0
    have hhd : xs.head? = some (xs.getD 0 0) := by
      cases xs with
      | nil => simp at hl
      | cons x xs => rfl
    by_cases h128 : xs.getD 0 0 = 128
    · simp only [go_sem, ↓reduceIte, Nat.reduceEqDiff, Nat.reduceLeDiff, Nat.reduceAdd, Nat.reduceMul, Nat.reduceSub, Nat.reduceBEq, Nat.reduceGT, Nat.reduceLT, Int.reduceLE, Int.reduceLT, Int.reduceNeg, reduceCtorEq, c0, g0, h128, Int.toNat_zero, Nat.add_zero]
      rw [vform, if_pos (by rw [hhd, h128])]
    · have hh : xs.head? ≠ some 128 := by rw [hhd]; simpa using h128
      simp only [go_sem, ↓reduceIte, Nat.reduceEqDiff, Nat.reduceLeDiff, Nat.reduceAdd, Nat.reduceMul, Nat.reduceSub, Nat.reduceBEq, Nat.reduceGT, Nat.reduceLT, Int.reduceLE, Int.reduceLT, Int.reduceNeg, reduceCtorEq, c0, g0, h128, Int.toNat_zero, Nat.add_zero, hmin, Int.toNat_natCast]
      refine ⟨by omega, ?_⟩
      refine loop _ _ _ _ _ (by simp only [go_sem, ↓reduceIte, Nat.reduceEqDiff, Nat.reduceLeDiff, Nat.reduceAdd, Nat.reduceMul, Nat.reduceSub, Nat.reduceBEq, Nat.reduceGT, Nat.reduceLT, Int.reduceLE, Int.reduceLT, Int.reduceNeg, reduceCtorEq]) (by simp only [go_sem, ↓reduceIte, Nat.reduceEqDiff, Nat.reduceLeDiff, Nat.reduceAdd, Nat.reduceMul, Nat.reduceSub, Nat.reduceBEq, Nat.reduceGT, Nat.reduceLT, Int.reduceLE, Int.reduceLT, Int.reduceNeg, reduceCtorEq]; rfl) (by simpa using hsub) (by simp only [go_sem, ↓reduceIte, Nat.reduceEqDiff, Nat.reduceLeDiff, Nat.reduceAdd, Nat.reduceMul, Nat.reduceSub, Nat.reduceBEq, Nat.reduceGT, Nat.reduceLT, Int.reduceLE, Int.reduceLT, Int.reduceNeg, reduceCtorEq]) (by simp only [go_sem, ↓reduceIte, Nat.reduceEqDiff, Nat.reduceLeDiff, Nat.reduceAdd, Nat.reduceMul, Nat.reduceSub, Nat.reduceBEq, Nat.reduceGT, Nat.reduceLT, Int.reduceLE, Int.reduceLT, Int.reduceNeg, reduceCtorEq]) (by simp only [go_sem, ↓reduceIte, Nat.reduceEqDiff, Nat.reduceLeDiff, Nat.reduceAdd, Nat.reduceMul, Nat.reduceSub, Nat.reduceBEq, Nat.reduceGT, Nat.reduceLT, Int.reduceLE, Int.reduceLT, Int.reduceNeg, reduceCtorEq]) ?_ ?_
      · intro ρ' i hi hk h8 e2 e3 e4
        simp only [go_sem, ↓reduceIte, Nat.reduceEqDiff, Nat.reduceLeDiff, Nat.reduceAdd, Nat.reduceMul, Nat.reduceSub, Nat.reduceBEq, Nat.reduceGT, Nat.reduceLT, Int.reduceLE, Int.reduceLT, Int.reduceNeg, reduceCtorEq, e2, e3, e4, fret hh i hi hk h8]
      · intro ρ' e0 hk
        by_cases c9 : (9 : Int) ≤ xs.length
        · simp only [go_sem, ↓reduceIte, Nat.reduceEqDiff, Nat.reduceLeDiff, Nat.reduceAdd, Nat.reduceMul, Nat.reduceSub, Nat.reduceBEq, Nat.reduceGT, Nat.reduceLT, Int.reduceLE, Int.reduceLT, Int.reduceNeg, reduceCtorEq, e0, c9, fexit hh hk]
        · simp only [go_sem, ↓reduceIte, Nat.reduceEqDiff, Nat.reduceLeDiff, Nat.reduceAdd, Nat.reduceMul, Nat.reduceSub, Nat.reduceBEq, Nat.reduceGT, Nat.reduceLT, Int.reduceLE, Int.reduceLT, Int.reduceNeg, reduceCtorEq, e0, c9, fexit hh hk]
  · have c0 : ¬ (0 : Int) < xs.length := by omega
    have hh : xs.head? ≠ some 128 := by
      have : xs = [] := List.eq_nil_of_length_eq_zero (by omega)
      subst this; simp
    simp only [go_sem, ↓reduceIte, Nat.reduceEqDiff, Nat.reduceLeDiff, Nat.reduceAdd, Nat.reduceMul, Nat.reduceSub, Nat.reduceBEq, Nat.reduceGT, Nat.reduceLT, Int.reduceLE, Int.reduceLT, Int.reduceNeg, reduceCtorEq, c0, hmin, Int.toNat_natCast]
    refine ⟨by have := hv.lecap; omega, ?_⟩
    refine loop _ _ _ _ _ (by simp only [go_sem, ↓reduceIte, Nat.reduceEqDiff, Nat.reduceLeDiff, Nat.reduceAdd, Nat.reduceMul, Nat.reduceSub, Nat.reduceBEq, Nat.reduceGT, Nat.reduceLT, Int.reduceLE, Int.reduceLT, Int.reduceNeg, reduceCtorEq]) (by simp only [go_sem, ↓reduceIte, Nat.reduceEqDiff, Nat.reduceLeDiff, Nat.reduceAdd, Nat.reduceMul, Nat.reduceSub, Nat.reduceBEq, Nat.reduceGT, Nat.reduceLT, Int.reduceLE, Int.reduceLT, Int.reduceNeg, reduceCtorEq]; rfl) (by cases ad <;> simpa using hsub) (by simp only [go_sem, ↓reduceIte, Nat.reduceEqDiff, Nat.reduceLeDiff, Nat.reduceAdd, Nat.reduceMul, Nat.reduceSub, Nat.reduceBEq, Nat.reduceGT, Nat.reduceLT, Int.reduceLE, Int.reduceLT, Int.reduceNeg, reduceCtorEq]) (by simp only [go_sem, ↓reduceIte, Nat.reduceEqDiff, Nat.reduceLeDiff, Nat.reduceAdd, Nat.reduceMul, Nat.reduceSub, Nat.reduceBEq, Nat.reduceGT, Nat.reduceLT, Int.reduceLE, Int.reduceLT, Int.reduceNeg, reduceCtorEq]) (by simp only [go_sem, ↓reduceIte, Nat.reduceEqDiff, Nat.reduceLeDiff, Nat.reduceAdd, Nat.reduceMul, Nat.reduceSub, Nat.reduceBEq, Nat.reduceGT, Nat.reduceLT, Int.reduceLE, Int.reduceLT, Int.reduceNeg, reduceCtorEq]) ?_ ?_
    · intro ρ' i hi hk h8 e2 e3 e4
      simp only [go_sem, ↓reduceIte, Nat.reduceEqDiff, Nat.reduceLeDiff, Nat.reduceAdd, Nat.reduceMul, Nat.reduceSub, Nat.reduceBEq, Nat.reduceGT, Nat.reduceLT, Int.reduceLE, Int.reduceLT, Int.reduceNeg, reduceCtorEq, e2, e3, e4, fret hh i hi hk h8]
    · intro ρ' e0 hk
      have c9 : ¬ (9 : Int) ≤ xs.length := by omega
      simp only [go_sem, ↓reduceIte, Nat.reduceEqDiff, Nat.reduceLeDiff, Nat.reduceAdd, Nat.reduceMul, Nat.reduceSub, Nat.reduceBEq, Nat.reduceGT, Nat.reduceLT, Int.reduceLE, Int.reduceLT, Int.reduceNeg, reduceCtorEq, e0, c9, fexit hh hk]
end Go.Proofs.YtgigigchjnnonaaGreatDoor
