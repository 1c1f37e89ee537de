/- The sum of 32 bits: plainly, and the functions that reckon it. -/
import Derived.Test.YtgigigchjnnonaaGreatDoorVFsH
import Derived.Test.YtgigigchjnnonaaGreatDoorVCode
set_option linter.unusedSimpArgs false
set_option linter.unusedVariables false
set_option maxRecDepth 20000
namespace Go.V
open Go
abbrev W32 := BitVec 32
def polyW : W32 := 0x04C11DB7#32
def stepW (x : W32) : W32 := (x <<< 1) ^^^ (if x.msb then polyW else 0#32)
def step4 (x : W32) : W32 := stepW (stepW (stepW (stepW x)))
def tabW (n : Nat) : W32 := step4 (BitVec.ofNat 32 (n * 268435456))
theorem stepW_xor (a b : W32) : stepW (a ^^^ b) = stepW a ^^^ stepW b := by
  unfold stepW
  rw [BitVec.shiftLeft_xor_distrib, BitVec.msb_xor]
  generalize a <<< 1 = p
  generalize b <<< 1 = q
  cases a.msb <;> cases b.msb <;> simp
  · rw [BitVec.xor_assoc]
  · rw [BitVec.xor_assoc, BitVec.xor_assoc, BitVec.xor_comm q]
  · rw [BitVec.xor_assoc, BitVec.xor_comm q, ← BitVec.xor_assoc polyW, BitVec.xor_self, BitVec.zero_xor]
theorem step4_xor (a b : W32) : step4 (a ^^^ b) = step4 a ^^^ step4 b := by
  unfold step4
  simp only [stepW_xor]
theorem stepW_low {x : W32} (h : x.toNat < 2147483648) : stepW x = x <<< 1 := by
  unfold stepW
  rw [BitVec.msb_eq_decide, decide_eq_false (by omega)]
  simp
theorem shl_toNat (x : W32) {k : Nat} (h : x.toNat * 2 ^ k < 4294967296) : (x <<< k).toNat = x.toNat * 2 ^ k := by
  rw [BitVec.toNat_shiftLeft, Nat.shiftLeft_eq]
  exact Nat.mod_eq_of_lt h
theorem step4_low {x : W32} (h : x.toNat < 268435456) : step4 x = x <<< 4 := by
  unfold step4
  have h1 := shl_toNat x (k := 1) (by omega)
  rw [stepW_low (x := x) (by omega)]
  have h2 := shl_toNat (x <<< 1) (k := 1) (by omega)
  rw [stepW_low (x := x <<< 1) (by omega)]
  have h3 := shl_toNat (x <<< 1 <<< 1) (k := 1) (by omega)
  rw [stepW_low (x := x <<< 1 <<< 1) (by omega)]
  rw [stepW_low (x := x <<< 1 <<< 1 <<< 1) (by omega)]
  simp only [← BitVec.shiftLeft_add]
theorem parts (x : W32) : x = ((x <<< 4) >>> 4) ^^^ ((x >>> 28) <<< 28) := by
  apply BitVec.eq_of_getLsbD_eq
  intro i hi
  simp only [BitVec.getLsbD_xor, BitVec.getLsbD_ushiftRight, BitVec.getLsbD_shiftLeft]
  by_cases h : i < 28
  · simp [h, show 4 + i < 32 by omega, hi]
  · simp [h, show ¬ 4 + i < 32 by omega, hi, show 28 + (i - 28) = i by omega]
theorem low_shl (x : W32) : ((x <<< 4) >>> 4) <<< 4 = x <<< 4 := by
  apply BitVec.eq_of_getLsbD_eq
  intro i hi
  simp only [BitVec.getLsbD_ushiftRight, BitVec.getLsbD_shiftLeft]
  by_cases h : i < 4
  · simp [h]
  · simp [h, show 4 + (i - 4) = i by omega, hi]
theorem top_lt (x : W32) : (x >>> 28).toNat < 16 := by
  rw [BitVec.toNat_ushiftRight, Nat.shiftRight_eq_div_pow]
  have := x.isLt
  omega
theorem step4_eq (x : W32) : step4 x = (x <<< 4) ^^^ tabW (x >>> 28).toNat := by
  have h := parts x
  have hl : ((x <<< 4) >>> 4).toNat < 268435456 := by
    rw [BitVec.toNat_ushiftRight, Nat.shiftRight_eq_div_pow]
    have := (x <<< 4).isLt
    omega
  have h1 := top_lt x
  have hh : (x >>> 28) <<< 28 = BitVec.ofNat 32 ((x >>> 28).toNat * 268435456) := by
    apply BitVec.eq_of_toNat_eq
    rw [shl_toNat _ (by omega), BitVec.toNat_ofNat, Nat.mod_eq_of_lt (by omega)]
  have h2 : step4 x = step4 (((x <<< 4) >>> 4) ^^^ ((x >>> 28) <<< 28)) := congrArg step4 h
  rw [h2, step4_xor, step4_low hl, low_shl, hh]
  rfl
/-- A nibble more: h its bits. -/
def nibW (x : W32) (h : Nat) : W32 := (x <<< 4) ^^^ tabW ((x >>> 28).toNat ^^^ h)
theorem nib_eq (x : W32) {h : Nat} (hh : h < 16) : step4 (x ^^^ BitVec.ofNat 32 (h * 268435456)) = nibW x h := by
  rw [step4_eq]
  unfold nibW
  have e1 : (x ^^^ BitVec.ofNat 32 (h * 268435456)) <<< 4 = x <<< 4 := by
    rw [BitVec.shiftLeft_xor_distrib]
    have : BitVec.ofNat 32 (h * 268435456) <<< 4 = 0#32 := by
      apply BitVec.eq_of_toNat_eq
      rw [BitVec.toNat_shiftLeft, BitVec.toNat_ofNat, Nat.shiftLeft_eq]
      show _ = 0
      omega
    rw [this, BitVec.xor_zero]
  have e2 : ((x ^^^ BitVec.ofNat 32 (h * 268435456)) >>> 28).toNat = (x >>> 28).toNat ^^^ h := by
    rw [BitVec.toNat_ushiftRight, BitVec.toNat_xor, Nat.shiftRight_xor_distrib, BitVec.toNat_ushiftRight, BitVec.toNat_ofNat, Nat.mod_eq_of_lt (by omega)]
    congr 1
    rw [Nat.shiftRight_eq_div_pow]
    omega
  rw [e1, e2]
/-- A byte more, bit by bit. -/
def byteW (x : W32) (y : Nat) : W32 := step4 (step4 (x ^^^ BitVec.ofNat 32 (y * 16777216)))
theorem byte_nib (x : W32) {y : Nat} (hy : y < 256) : byteW x y = nibW (nibW x (y / 16)) (y % 16) := by
  have e : BitVec.ofNat 32 (y * 16777216) = BitVec.ofNat 32 (y / 16 * 268435456) ^^^ BitVec.ofNat 32 (y % 16 * 16777216) := by
    have : ∀ y : Fin 256, BitVec.ofNat 32 (y.val * 16777216) = BitVec.ofNat 32 (y.val / 16 * 268435456) ^^^ BitVec.ofNat 32 (y.val % 16 * 16777216) := by decide +kernel
    exact this ⟨y, hy⟩
  unfold byteW
  have hl : (BitVec.ofNat 32 (y % 16 * 16777216)).toNat < 268435456 := by rw [BitVec.toNat_ofNat, Nat.mod_eq_of_lt (by omega)]; omega
  have hs : BitVec.ofNat 32 (y % 16 * 16777216) <<< 4 = BitVec.ofNat 32 (y % 16 * 268435456) := by
    apply BitVec.eq_of_toNat_eq
    rw [BitVec.toNat_shiftLeft, BitVec.toNat_ofNat, BitVec.toNat_ofNat, Nat.shiftLeft_eq]
    omega
  rw [e, ← BitVec.xor_assoc, step4_xor, step4_low hl, hs, nib_eq x (by omega), nib_eq _ (by omega)]
def updW (x : W32) (bs : List Int) : W32 := bs.foldl (fun x y => byteW x y.toNat) x
def crcW (c : W32) (bs : List Int) : W32 := ~~~ (updW (~~~ c) bs)
theorem updW_nil (x : W32) : updW x [] = x := List.foldl_nil
theorem updW_snoc (x : W32) (bs : List Int) (y : Int) : updW x (bs ++ [y]) = byteW (updW x bs) y.toNat := by unfold updW; rw [List.foldl_append]; rfl
/-! ### Numbers of the model -/
def wI (x : W32) : Int := (x.toNat : Int)
theorem wI_lt (x : W32) : 0 ≤ wI x ∧ wI x < 4294967296 := by have := x.isLt; unfold wI; omega
theorem ofInt_wI (x : W32) : BitVec.ofInt 32 (wI x) = x := by unfold wI; rw [BitVec.ofInt_natCast, BitVec.ofNat_toNat, BitVec.setWidth_eq]
theorem wI_xor (a b : W32) : ibits .xor .u32 (wI a) (wI b) = wI (a ^^^ b) := by
  have h : ibits .xor .u32 (wI a) (wI b) = IntKind.u32.wrap ((BitVec.ofInt 32 (wI a) ^^^ BitVec.ofInt 32 (wI b)).toNat : Int) := rfl
  rw [h, ofInt_wI, ofInt_wI, wu32]
  have := wI_lt (a ^^^ b)
  unfold wI at *
  omega
theorem wI_not (a : W32) : ibits .xor .u32 4294967295 (wI a) = wI (~~~ a) := by
  have h : (4294967295 : Int) = wI (BitVec.allOnes 32) := rfl
  rw [h, wI_xor, BitVec.allOnes_xor]
theorem wI_flip (a : W32) : ibits .xor .u32 (if IntKind.u32.signed = true then -1 else IntKind.u32.max) (wI a) = wI (~~~ a) := by
  have e : (if IntKind.u32.signed = true then (-1 : Int) else IntKind.u32.max) = 4294967295 := by decide
  rw [e]; exact wI_not a
theorem wI_shl4 (a : W32) : ishl .u32 (wI a) 4 = wI (a <<< 4) := by
  have h : ishl .u32 (wI a) 4 = IntKind.u32.wrap (wI a * 2 ^ 4) := rfl
  rw [h, wu32]
  unfold wI
  rw [BitVec.toNat_shiftLeft, Nat.shiftLeft_eq]
  omega
theorem wI_shr (a : W32) {k : Nat} (hk : k ≤ 32) : ishr .u32 (wI a) (k : Int) = wI (a >>> k) := by
  have h : ishr .u32 (wI a) (k : Int) = (wI a).fdiv (2 ^ (min (k : Int).toNat 32)) := rfl
  rw [h, Int.toNat_natCast, Nat.min_eq_left hk]
  unfold wI
  rw [BitVec.toNat_ushiftRight, Nat.shiftRight_eq_div_pow, Int.fdiv_eq_ediv_of_nonneg _ (by exact Int.pow_nonneg (by decide))]
  norm_cast
theorem wI_top (a : W32) : IntKind.u8.wrap (wI (a >>> 28)) = wI (a >>> 28) := by
  have := top_lt a
  rw [wu8]; unfold wI; omega
theorem byt_shr4 {y : Int} (h : 0 ≤ y ∧ y < 256) : ishr .u8 y 4 = ((y.toNat / 16 : Nat) : Int) := by
  have h2 : ishr .u8 y 4 = y.fdiv (2 ^ 4) := rfl
  rw [h2, Int.fdiv_eq_ediv_of_nonneg _ (by decide)]
  omega
theorem byt_and15 {y : Int} (h : 0 ≤ y ∧ y < 256) : ibits .and .u8 y 15 = ((y.toNat % 16 : Nat) : Int) := by
  have := and_mask (k := .u8) (m := 4) h.1 (by simpa [IntKind.bits] using h.2) (by decide)
  have e : (2 : Int) ^ 4 - 1 = 15 := by decide
  rw [e] at this
  rw [this]
  omega
theorem nib_xor {a b : Nat} (ha : a < 16) (hb : b < 16) : ibits .xor .u8 (a : Int) (b : Int) = ((a ^^^ b : Nat) : Int) ∧ a ^^^ b < 16 := by
  have key : ∀ a b : Fin 16, ibits .xor .u8 (a.val : Int) (b.val : Int) = ((a.val ^^^ b.val : Nat) : Int) ∧ a.val ^^^ b.val < 16 := by decide +kernel
  exact key ⟨a, ha⟩ ⟨b, hb⟩
/-- The table's cells. -/
def tabC : Array Value := ((List.range 16).map fun i => Value.int .u32 (wI (tabW i))).toArray
def CrcTab (H : Heap) : Prop := ∃ t fr, H[0]? = some (.cells tabC t fr)
theorem CrcTab.ext {H H' : Heap} (h : CrcTab H) (x : Ext H H') : CrcTab H' := by
  obtain ⟨t, fr, h⟩ := h
  exact ⟨t, fr, by rw [x.get _ (Array.getElem?_eq_some_iff.1 h).1]; exact h⟩
theorem CrcTab.get {H : Heap} (h : CrcTab H) {i : Nat} (hi : i < 16) : hget H 0 i = some (.int .u32 (wI (tabW i))) := by
  obtain ⟨t, fr, h⟩ := h
  rw [hget_cells h]
  unfold tabC
  simp [hi]
theorem nib_nums {H : Heap} (ht : CrcTab H) (x : W32) {h : Nat} (hh : h < 16) : ∃ (A B T : Int) (k : Nat), ishl .u32 (wI x) 4 = A ∧ ishr .u32 (wI x) 28 = B ∧ IntKind.u8.wrap B = B ∧ ibits .xor .u8 B (h : Int) = (k : Int) ∧ k < 16 ∧ hget H 0 k = some (.int .u32 T) ∧ ibits .xor .u32 A T = wI (nibW x h) := by
  obtain ⟨z1, z2⟩ := nib_xor (top_lt x) hh
  refine ⟨_, _, _, _, wI_shl4 x, wI_shr x (k := 28) (by decide), wI_top x, z1, z2, ht.get z2, ?_⟩
  rw [wI_xor]
  unfold nibW
  exact Eq.refl _
end Go.V
namespace Go.Proofs.YtgigigchjnnonaaGreatDoor
open Go Go.V
theorem F273 (c : W32) {v : Value} {bs : List Int} {H : Heap} (hv : Ints H 5 .u8 v bs) (hb : Byt bs) (ht : CrcTab H) (hl : bs.length < 9223372036854775807) :
    Fun Tryz.prog 273 #[.int .u32 (wI c), v] H (fun r H' => r = .int .u32 (wI (crcW c bs)) ∧ H = H') := by
  obtain ⟨a, cap, rfl⟩ := hv.form
  refine fun_of mixed (args := [_, _]) Tryz.func273 Tryz.ntmps273 b273 r273 rfl ?_
  have hn : ibits .xor .u32 (if IntKind.u32.signed = true then -1 else IntKind.u32.max) (wI c) = wI (~~~ c) := wI_flip c
  simp only [go_sem, ↓reduceIte, Nat.reduceEqDiff, Nat.reduceLeDiff, Nat.reduceAdd, Nat.reduceMul, Nat.reduceSub, Nat.reduceBEq, Nat.reduceGT, Nat.reduceLT, Int.reduceLE, Int.reduceLT, Int.reduceNeg, reduceCtorEq, hn]
  refine LoopI.by mixed (fun ρ H' => H = H' ∧ ∃ i : Nat, ρ 5 = .int .u32 (wI (updW (~~~ c) (bs.take i))) ∧ ρ 10 = .slice a bs.length cap ∧ ρ 11 = .int .i64 bs.length ∧ ρ 12 = .int .i64 i ∧ i ≤ bs.length) (fun ρ _ => bs.length - (iof (ρ 12)).toNat) ?_ ?_
  · exact ⟨rfl, 0, by simp only [go_sem, ↓reduceIte, Nat.reduceEqDiff, Nat.reduceLeDiff, Nat.reduceAdd, Nat.reduceMul, Nat.reduceSub, Nat.reduceBEq, Nat.reduceGT, Nat.reduceLT, Int.reduceLE, Int.reduceLT, Int.reduceNeg, reduceCtorEq, List.take_zero, updW_nil], by simp only [go_sem, ↓reduceIte, Nat.reduceEqDiff, Nat.reduceLeDiff, Nat.reduceAdd, Nat.reduceMul, Nat.reduceSub, Nat.reduceBEq, Nat.reduceGT, Nat.reduceLT, Int.reduceLE, Int.reduceLT, Int.reduceNeg, reduceCtorEq], by simp only [go_sem, ↓reduceIte, Nat.reduceEqDiff, Nat.reduceLeDiff, Nat.reduceAdd, Nat.reduceMul, Nat.reduceSub, Nat.reduceBEq, Nat.reduceGT, Nat.reduceLT, Int.reduceLE, Int.reduceLT, Int.reduceNeg, reduceCtorEq], by simp only [go_sem, ↓reduceIte, Nat.reduceEqDiff, Nat.reduceLeDiff, Nat.reduceAdd, Nat.reduceMul, Nat.reduceSub, Nat.reduceBEq, Nat.reduceGT, Nat.reduceLT, Int.reduceLE, Int.reduceLT, Int.reduceNeg, reduceCtorEq] <;> rfl, by omega⟩
  rintro ρ _ ⟨rfl, i, e5, e10, e11, e12, hi⟩
  by_cases hlt : i < bs.length
  · obtain ⟨b, o, rfl⟩ := hv.at hlt
    have g1 := hv.get hlt
    have c0 : (0 : Int) ≤ i := by omega
    have c1 : (i : Int) < bs.length := by omega
    have w1 : IntKind.i64.wrap ((i : Int) + 1) = ((i + 1 : Nat) : Int) := by rw [w64_id (by omega) (by omega)]; omega
    have hy : 0 ≤ bs.getD i 0 ∧ bs.getD i 0 < 256 := by
      have := hb (bs.getD i 0) (by rw [List.getD_eq_getElem?_getD, List.getElem?_eq_getElem hlt]; exact List.getElem_mem _)
      exact this
    have htk : bs.take (i + 1) = bs.take i ++ [bs.getD i 0] := by
      rw [List.take_succ_eq_append_getElem hlt, List.getD_eq_getElem?_getD, List.getElem?_eq_getElem hlt]; rfl
    obtain ⟨y, hyy⟩ : ∃ y, y = bs.getD i 0 := ⟨_, rfl⟩
    rw [← hyy] at hy g1 htk
    obtain ⟨x, hx⟩ : ∃ x, x = updW (~~~ c) (bs.take i) := ⟨_, rfl⟩
    rw [← hx] at e5
    have hfin : wI (byteW x y.toNat) = wI (updW (~~~ c) (bs.take (i + 1))) := by rw [htk, updW_snoc, ← hx]
    obtain ⟨A, B, T, k, f1, f2, f3, f4, f5, f6, f7⟩ := nib_nums ht x (show y.toNat / 16 < 16 by omega)
    obtain ⟨A', B', T', k', f1', f2', f3', f4', f5', f6', f7'⟩ := nib_nums ht (nibW x (y.toNat / 16)) (show y.toNat % 16 < 16 by omega)
    rw [← byte_nib x (by omega), hfin] at f7'
    have q1 := byt_shr4 hy
    have q2 := byt_and15 hy
    obtain ⟨C, hC⟩ : ∃ C : Int, C = ((y.toNat / 16 : Nat) : Int) := ⟨_, rfl⟩
    obtain ⟨C', hC'⟩ : ∃ C : Int, C = ((y.toNat % 16 : Nat) : Int) := ⟨_, rfl⟩
    rw [← hC] at q1 f4
    rw [← hC'] at q2 f4'
    obtain ⟨X, hX⟩ : ∃ X, X = wI x := ⟨_, rfl⟩
    obtain ⟨X', hX'⟩ : ∃ X, X = wI (nibW x (y.toNat / 16)) := ⟨_, rfl⟩
    obtain ⟨X2, hX2⟩ : ∃ X, X = wI (updW (~~~ c) (bs.take (i + 1))) := ⟨_, rfl⟩
    rw [← hX] at e5 f1 f2
    rw [← hX'] at f1' f2' f7
    rw [← hX2] at f7'
    have n1 : (0 : Int) ≤ (k : Int) := by omega
    have n2 : (k : Int) < ((16 : Nat) : Int) := by omega
    have n3 : (0 : Int) ≤ (k' : Int) := by omega
    have n4 : (k' : Int) < ((16 : Nat) : Int) := by omega
    clear hX hX' hC hC' hfin hx htk hyy hn
    simp only [go_sem, ↓reduceIte, Nat.reduceEqDiff, Nat.reduceLeDiff, Nat.reduceAdd, Nat.reduceMul, Nat.reduceSub, Nat.reduceBEq, Nat.reduceGT, Nat.reduceLT, Int.reduceLE, Int.reduceLT, Int.reduceNeg, reduceCtorEq, c273_L0, e5, e10, e11, e12, c0, c1, Int.toNat_natCast, g1, f1, f2, f3, f4, f6, f7, f1', f2', f3', f4', f6', f7', q1, q2, n1, n2, n3, n4, w1, Nat.zero_add, Nat.mul_one]
    exact ⟨Hold.mk ⟨rfl, i + 1, by simp only [go_sem, ↓reduceIte, Nat.reduceEqDiff, Nat.reduceLeDiff, Nat.reduceAdd, Nat.reduceMul, Nat.reduceSub, Nat.reduceBEq, Nat.reduceGT, Nat.reduceLT, Int.reduceLE, Int.reduceLT, Int.reduceNeg, reduceCtorEq, hX2], by simp only [go_sem, ↓reduceIte, Nat.reduceEqDiff, Nat.reduceLeDiff, Nat.reduceAdd, Nat.reduceMul, Nat.reduceSub, Nat.reduceBEq, Nat.reduceGT, Nat.reduceLT, Int.reduceLE, Int.reduceLT, Int.reduceNeg, reduceCtorEq, e10], by simp only [go_sem, ↓reduceIte, Nat.reduceEqDiff, Nat.reduceLeDiff, Nat.reduceAdd, Nat.reduceMul, Nat.reduceSub, Nat.reduceBEq, Nat.reduceGT, Nat.reduceLT, Int.reduceLE, Int.reduceLT, Int.reduceNeg, reduceCtorEq, e11], by simp only [go_sem, ↓reduceIte, Nat.reduceEqDiff, Nat.reduceLeDiff, Nat.reduceAdd, Nat.reduceMul, Nat.reduceSub, Nat.reduceBEq, Nat.reduceGT, Nat.reduceLT, Int.reduceLE, Int.reduceLT, Int.reduceNeg, reduceCtorEq], by omega⟩, by omega⟩
  · have c1 : ¬ (i : Int) < bs.length := by omega
    have : i = bs.length := by omega
    subst this
    rw [List.take_of_length_le (Nat.le_refl _)] at e5
    have hn2 : ibits .xor .u32 (if IntKind.u32.signed = true then -1 else IntKind.u32.max) (wI (updW (~~~ c) bs)) = wI (crcW c bs) := wI_flip _
    simp only [go_sem, ↓reduceIte, Nat.reduceEqDiff, Nat.reduceLeDiff, Nat.reduceAdd, Nat.reduceMul, Nat.reduceSub, Nat.reduceBEq, Nat.reduceGT, Nat.reduceLT, Int.reduceLE, Int.reduceLT, Int.reduceNeg, reduceCtorEq, c273_L0, e5, e10, e11, e12, c1, hn2]
theorem F323 {v : Value} {bs : List Int} {H : Heap} (hv : Ints H 5 .u8 v bs) (hb : Byt bs) (ht : CrcTab H) (hl : bs.length < 9223372036854775807) :
    Fun Tryz.prog 323 #[v] H (fun r H' => r = .int .u32 (wI (crcW 0#32 bs)) ∧ H = H') := by
  refine fun_of mixed (args := [_]) Tryz.func323 Tryz.ntmps323 b323 r323 rfl ?_
  simp only [go_sem, ↓reduceIte, Nat.reduceEqDiff, Nat.reduceLeDiff, Nat.reduceAdd, Nat.reduceMul, Nat.reduceSub, Nat.reduceBEq, Nat.reduceGT, Nat.reduceLT, Int.reduceLE, Int.reduceLT, Int.reduceNeg, reduceCtorEq]
  refine FunI.by (F273 0#32 hv hb ht hl) ?_
  rintro _ _ ⟨rfl, rfl⟩
  simp only [go_sem, ↓reduceIte, Nat.reduceEqDiff, Nat.reduceLeDiff, Nat.reduceAdd, Nat.reduceMul, Nat.reduceSub, Nat.reduceBEq, Nat.reduceGT, Nat.reduceLT, Int.reduceLE, Int.reduceLT, Int.reduceNeg, reduceCtorEq]
end Go.Proofs.YtgigigchjnnonaaGreatDoor
