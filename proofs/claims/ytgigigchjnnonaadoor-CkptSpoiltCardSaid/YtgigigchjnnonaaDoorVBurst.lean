/- Bursts: bits turned within 32 places leave no sum as it was. -/
import Derived.Test.YtgigigchjnnonaaDoorM1
set_option linter.unusedSimpArgs false
set_option linter.unusedVariables false
set_option maxRecDepth 20000
namespace Go.V
open Go
def topB (b : Bool) : W32 := if b then 0x80000000#32 else 0#32
def bitW (x : W32) (b : Bool) : W32 := stepW (x ^^^ topB b)
def feed (x : W32) (l : List Bool) : W32 := l.foldl bitW x
theorem feed_app (x : W32) (l m : List Bool) : feed x (l ++ m) = feed (feed x l) m := by unfold feed; rw [List.foldl_append]
theorem topB_xor (a b : Bool) : topB (a ^^ b) = topB a ^^^ topB b := by cases a <;> cases b <;> rfl
theorem xor4 (a b c d : W32) : (a ^^^ b) ^^^ (c ^^^ d) = (a ^^^ c) ^^^ (b ^^^ d) := by
  rw [BitVec.xor_assoc, BitVec.xor_assoc, ← BitVec.xor_assoc b, ← BitVec.xor_assoc c, BitVec.xor_comm b c]
theorem bitW_xor (x y : W32) (a b : Bool) : bitW (x ^^^ y) (a ^^ b) = bitW x a ^^^ bitW y b := by
  unfold bitW
  rw [topB_xor, xor4, stepW_xor]
theorem feed_xor : ∀ (l m : List Bool) (x y : W32), l.length = m.length → feed (x ^^^ y) (List.zipWith (· ^^ ·) l m) = feed x l ^^^ feed y m
  | [], [], x, y, _ => rfl
  | a :: l, b :: m, x, y, h => by
    have ih := feed_xor l m (bitW x a) (bitW y b) (by simpa using h)
    rw [← bitW_xor] at ih
    exact ih
  | [], _ :: _, _, _, h => by simp at h
  | _ :: _, [], _, _, h => by simp at h
theorem stepW_zero : stepW 0#32 = 0#32 := by decide
theorem stepN_succ (k : Nat) (x : W32) : stepN k (stepW x) = stepN (k + 1) x := by
  induction k with
  | zero => rfl
  | succ k ih => show stepW (stepN k (stepW x)) = _; rw [ih]; rfl
theorem stepN_ne {x : W32} (h : x ≠ 0#32) : ∀ k, stepN k x ≠ 0#32
  | 0 => h
  | k + 1 => fun e => stepN_ne h k (stepW_inj (e.trans stepW_zero.symm))
theorem feed_false : ∀ (l : List Bool) (x : W32), (∀ b ∈ l, b = false) → feed x l = stepN l.length x
  | [], _, _ => rfl
  | b :: l, x, h => by
    have hb := h b List.mem_cons_self
    subst hb
    have : feed x (false :: l) = feed (stepW x) l := by
      show feed (bitW x false) l = _
      unfold bitW topB
      simp
    rw [this, feed_false l _ fun c hc => h c (List.mem_cons_of_mem _ hc), stepN_succ]
    rfl
theorem stepN_zero (k : Nat) : stepN k 0#32 = 0#32 := by
  induction k with
  | zero => rfl
  | succ k ih => show stepW (stepN k 0#32) = _; rw [ih, stepW_zero]
def wordB : List Bool → W32
  | [] => 0#32
  | b :: l => topB b ^^^ (wordB l >>> 1)
theorem topB_bit (b : Bool) (i : Nat) : (topB b).getLsbD i = (decide (i = 31) && b) := by
  cases b
  · simp [topB]
  · unfold topB
    rw [if_pos rfl]
    by_cases h : i < 32
    · have key : ∀ i : Fin 32, (0x80000000#32 : W32).getLsbD i.val = (decide (i.val = 31) && true) := by decide
      exact key ⟨i, h⟩
    · rw [BitVec.getLsbD_of_ge _ _ (by omega)]
      have : ¬ i = 31 := by omega
      simp [this]
/-- The bits of a word, the first one highest. -/
theorem wordB_bit : ∀ (l : List Bool) (j : Nat), j < 32 → (wordB l).getLsbD (31 - j) = l.getD j false
  | [], j, _ => by simp [wordB]
  | b :: l, 0, _ => by
    show (topB b ^^^ (wordB l >>> 1)).getLsbD 31 = _
    rw [BitVec.getLsbD_xor, topB_bit, BitVec.getLsbD_ushiftRight, BitVec.getLsbD_of_ge _ _ (by omega)]
    simp
  | b :: l, j + 1, h => by
    show (topB b ^^^ (wordB l >>> 1)).getLsbD (31 - (j + 1)) = _
    rw [BitVec.getLsbD_xor, topB_bit, BitVec.getLsbD_ushiftRight, show 1 + (31 - (j + 1)) = 31 - j by omega, wordB_bit l j (by omega)]
    rw [decide_eq_false (show ¬ 31 - (j + 1) = 31 by omega)]
    simp
theorem step_shr {w : W32} (h : w.getLsbD 0 = false) : stepW (w >>> 1) = w := by
  have h1 : (w >>> 1).toNat < 2147483648 := by
    rw [BitVec.toNat_ushiftRight, Nat.shiftRight_eq_div_pow]
    have := w.isLt
    omega
  rw [stepW_low h1]
  apply BitVec.eq_of_getLsbD_eq
  intro i hi
  rw [BitVec.getLsbD_shiftLeft, BitVec.getLsbD_ushiftRight]
  by_cases h0 : i = 0
  · subst h0; rw [h]; simp
  · rw [show 1 + (i - 1) = i by omega]
    simp [hi, h0]
theorem feed_word : ∀ (l : List Bool) (x : W32), l.length ≤ 32 → feed x l = stepN l.length (x ^^^ wordB l)
  | [], x, _ => by simp [feed, wordB, stepN]
  | b :: l, x, h => by
    have hl : (wordB l).getLsbD 0 = false := by
      have := wordB_bit l 31 (by omega)
      rw [Nat.sub_self] at this
      rw [this, List.getD_eq_getElem?_getD, List.getElem?_eq_none (by simp at h; omega)]
      rfl
    have e : feed x (b :: l) = feed (bitW x b) l := rfl
    rw [e, feed_word l _ (by simp at h; omega)]
    have e2 : bitW x b ^^^ wordB l = stepW (x ^^^ wordB (b :: l)) := by
      conv => lhs; rw [← step_shr hl]
      unfold bitW
      rw [← stepW_xor, BitVec.xor_assoc]
      rfl
    rw [e2, stepN_succ]
    rfl
/-- A burst: at most 32 places from its first bit on. -/
theorem burst_ne {l : List Bool} {a : Nat} (ha : l.getD a false = true) (h0 : ∀ q, q < a → l.getD q false = false) (h1 : ∀ q, a + 32 ≤ q → l.getD q false = false) : feed 0#32 l ≠ 0#32 := by
  have hal : a < l.length := by
    rcases Nat.lt_or_ge a l.length with h | h
    · exact h
    · rw [List.getD_eq_getElem?_getD, List.getElem?_eq_none h] at ha; cases ha
  have e : l = l.take a ++ ((l.drop a).take 32 ++ (l.drop a).drop 32) := by rw [List.take_append_drop, List.take_append_drop]
  have f0 : ∀ b ∈ l.take a, b = false := fun b hb => by
    obtain ⟨i, hi, rfl⟩ := List.getElem_of_mem hb
    have hi2 : i < a := by simp at hi; omega
    have := h0 i hi2
    rw [List.getD_eq_getElem?_getD, List.getElem?_eq_getElem (by omega)] at this
    simpa using this
  have f1 : ∀ b ∈ (l.drop a).drop 32, b = false := fun b hb => by
    obtain ⟨i, hi, rfl⟩ := List.getElem_of_mem hb
    simp at hi
    have := h1 (a + 32 + i) (by omega)
    rw [List.getD_eq_getElem?_getD, List.getElem?_eq_getElem (by omega)] at this
    simp only [Option.getD_some] at this
    rw [List.getElem_drop, List.getElem_drop]
    rw [← this]
    congr 1
    omega
  rw [e, feed_app, feed_app, feed_false _ _ f0, stepN_zero, feed_false _ _ f1]
  apply stepN_ne
  rw [feed_word _ _ (by simp; omega), BitVec.zero_xor]
  apply stepN_ne
  intro hz
  have := wordB_bit ((l.drop a).take 32) 0 (by omega)
  rw [hz] at this
  rw [List.getD_eq_getElem?_getD, List.getElem?_take_of_lt (by omega), List.getElem?_drop, Nat.add_zero, ← List.getD_eq_getElem?_getD, ha] at this
  simp at this
/-! ### Bytes as bits -/
def bits8 (y : Nat) : List Bool := [y.testBit 7, y.testBit 6, y.testBit 5, y.testBit 4, y.testBit 3, y.testBit 2, y.testBit 1, y.testBit 0]
def bitsL (bs : List Int) : List Bool := bs.flatMap fun y => bits8 y.toNat
theorem word8 {y : Nat} (h : y < 256) : wordB (bits8 y) = BitVec.ofNat 32 (y * 16777216) := by
  have key : ∀ y : Fin 256, wordB (bits8 y.val) = BitVec.ofNat 32 (y.val * 16777216) := by decide +kernel
  exact key ⟨y, h⟩
theorem byteW_feed (x : W32) {y : Nat} (h : y < 256) : byteW x y = feed x (bits8 y) := by
  rw [feed_word _ _ (by simp [bits8]), word8 h, ← stepN_8]
  rfl
theorem updW_feed : ∀ (bs : List Int) (x : W32), Byt bs → updW x bs = feed x (bitsL bs)
  | [], x, _ => rfl
  | y :: bs, x, h => by
    have hy := h y List.mem_cons_self
    have e1 : updW x (y :: bs) = updW (byteW x y.toNat) bs := rfl
    have e2 : bitsL (y :: bs) = bits8 y.toNat ++ bitsL bs := by simp [bitsL]
    rw [e1, e2, feed_app, ← byteW_feed x (by omega)]
    exact updW_feed bs _ fun z hz => h z (List.mem_cons_of_mem _ hz)
theorem bitsL_app (a b : List Int) : bitsL (a ++ b) = bitsL a ++ bitsL b := by simp [bitsL]
theorem bitsL_len : ∀ bs : List Int, (bitsL bs).length = 8 * bs.length
  | [] => rfl
  | y :: bs => by
    have e2 : bitsL (y :: bs) = bits8 y.toNat ++ bitsL bs := by simp [bitsL]
    rw [e2, List.length_append, bitsL_len bs]
    simp [bits8]; omega
/-- The bit at a place: the highest of the first byte is the first. -/
def bitAt (bs : List Int) (q : Nat) : Bool := (bs.getD (q / 8) 0).toNat.testBit (7 - q % 8)
theorem bits8_get (y q : Nat) (h : q < 8) : (bits8 y).getD q false = y.testBit (7 - q) := by
  match q, h with
  | 0, _ => rfl
  | 1, _ => rfl
  | 2, _ => rfl
  | 3, _ => rfl
  | 4, _ => rfl
  | 5, _ => rfl
  | 6, _ => rfl
  | 7, _ => rfl
theorem bitsL_get : ∀ (bs : List Int) (q : Nat), (bitsL bs).getD q false = bitAt bs q
  | [], q => by simp [bitsL, bitAt]
  | y :: bs, q => by
    have e2 : bitsL (y :: bs) = bits8 y.toNat ++ bitsL bs := by simp [bitsL]
    have hl : (bits8 y.toNat).length = 8 := rfl
    rw [e2]
    by_cases h : q < 8
    · rw [List.getD_eq_getElem?_getD, List.getElem?_append_left (by omega), ← List.getD_eq_getElem?_getD, bits8_get _ _ h]
      unfold bitAt
      rw [show q / 8 = 0 by omega, show q % 8 = q by omega]
      rfl
    · rw [List.getD_eq_getElem?_getD, List.getElem?_append_right (by omega), hl, ← List.getD_eq_getElem?_getD, bitsL_get bs]
      unfold bitAt
      rw [show q / 8 = (q - 8) / 8 + 1 by omega, show (q - 8) % 8 = q % 8 by omega]
      simp
theorem bitAt_drop (bs : List Int) (s q : Nat) : bitAt (bs.drop s) q = bitAt bs (8 * s + q) := by
  unfold bitAt
  rw [show (8 * s + q) / 8 = s + q / 8 by omega, show (8 * s + q) % 8 = q % 8 by omega, List.getD_eq_getElem?_getD, List.getElem?_drop, ← List.getD_eq_getElem?_getD]
theorem bitAt_take (bs : List Int) (m q : Nat) (h : q < 8 * m) : bitAt (bs.take m) q = bitAt bs q := by
  unfold bitAt
  rw [List.getD_eq_getElem?_getD, List.getElem?_take_of_lt (by omega), ← List.getD_eq_getElem?_getD]
theorem bitAt_end (bs : List Int) (q : Nat) (h : 8 * bs.length ≤ q) : bitAt bs q = false := by
  unfold bitAt
  rw [List.getD_eq_getElem?_getD, List.getElem?_eq_none (by omega)]
  simp
/-- Bytes with the same bits are the same. -/
theorem bits_inj {xs ys : List Int} (hx : Byt xs) (hy : Byt ys) (hl : xs.length = ys.length) (h : ∀ q, q < 8 * xs.length → bitAt xs q = bitAt ys q) : xs = ys := by
  apply List.ext_getElem hl
  intro i h1 h2
  have b1 := hx _ (List.getElem_mem h1)
  have b2 := hy _ (List.getElem_mem h2)
  have e : (xs[i]).toNat = (ys[i]).toNat := by
    apply Nat.eq_of_testBit_eq
    intro j
    by_cases hj : j < 8
    · have := h (8 * i + (7 - j)) (by omega)
      unfold bitAt at this
      rw [show (8 * i + (7 - j)) / 8 = i by omega, show (8 * i + (7 - j)) % 8 = 7 - j by omega, show 7 - (7 - j) = j by omega, List.getD_eq_getElem?_getD, List.getD_eq_getElem?_getD, List.getElem?_eq_getElem h1, List.getElem?_eq_getElem h2] at this
      exact this
    · rw [Nat.testBit_lt_two_pow (Nat.lt_of_lt_of_le (show (xs[i]).toNat < 2 ^ 8 by omega) (Nat.pow_le_pow_right (by decide) (by omega))),
        Nat.testBit_lt_two_pow (Nat.lt_of_lt_of_le (show (ys[i]).toNat < 2 ^ 8 by omega) (Nat.pow_le_pow_right (by decide) (by omega)))]
  omega
/-! ### Bytes with their sum behind them -/
theorem bits_be4 (Y : W32) : bitsL (be4 (wI Y)) = (List.range 32).map fun i => Y.getLsbD (31 - i) := by
  have e : ∀ (n : Nat) (k i : Nat), i < 8 → Nat.testBit (((n : Int) / (2 ^ k : Nat) % 256).toNat) i = n.testBit (k + i) := fun n k i hi => by
    have : ((n : Int) / (2 ^ k : Nat) % 256).toNat = n / 2 ^ k % 2 ^ 8 := by
      have : ((n : Int) / (2 ^ k : Nat) % 256) = ((n / 2 ^ k % 2 ^ 8 : Nat) : Int) := by norm_cast
      rw [this]; omega
    rw [this, Nat.testBit_mod_two_pow, Nat.testBit_div_two_pow]
    simp [hi, Nat.add_comm]
  have e0 : ∀ (n : Nat) (i : Nat), i < 8 → Nat.testBit (((n : Int) % 256).toNat) i = n.testBit i := fun n i hi => by
    have := e n 0 i hi
    simpa using this
  have e24 := e Y.toNat 24
  have e16 := e Y.toNat 16
  have e8 := e Y.toNat 8
  have e1 := e0 Y.toNat
  simp only [show ((2 ^ 24 : Nat) : Int) = 16777216 from rfl, show ((2 ^ 16 : Nat) : Int) = 65536 from rfl, show ((2 ^ 8 : Nat) : Int) = 256 from rfl] at e24 e16 e8
  show bits8 ((Y.toNat : Int) / 16777216 % 256).toNat ++ (bits8 ((Y.toNat : Int) / 65536 % 256).toNat ++ (bits8 ((Y.toNat : Int) / 256 % 256).toNat ++ (bits8 ((Y.toNat : Int) % 256).toNat ++ []))) = _
  unfold bits8
  simp only [e24 _ (show 7 < 8 by decide), e24 _ (show 6 < 8 by decide), e24 _ (show 5 < 8 by decide), e24 _ (show 4 < 8 by decide), e24 _ (show 3 < 8 by decide), e24 _ (show 2 < 8 by decide), e24 _ (show 1 < 8 by decide), e24 _ (show 0 < 8 by decide),
    e16 _ (show 7 < 8 by decide), e16 _ (show 6 < 8 by decide), e16 _ (show 5 < 8 by decide), e16 _ (show 4 < 8 by decide), e16 _ (show 3 < 8 by decide), e16 _ (show 2 < 8 by decide), e16 _ (show 1 < 8 by decide), e16 _ (show 0 < 8 by decide),
    e8 _ (show 7 < 8 by decide), e8 _ (show 6 < 8 by decide), e8 _ (show 5 < 8 by decide), e8 _ (show 4 < 8 by decide), e8 _ (show 3 < 8 by decide), e8 _ (show 2 < 8 by decide), e8 _ (show 1 < 8 by decide), e8 _ (show 0 < 8 by decide),
    e1 _ (show 7 < 8 by decide), e1 _ (show 6 < 8 by decide), e1 _ (show 5 < 8 by decide), e1 _ (show 4 < 8 by decide), e1 _ (show 3 < 8 by decide), e1 _ (show 2 < 8 by decide), e1 _ (show 1 < 8 by decide), e1 _ (show 0 < 8 by decide)]
  rfl
theorem word_be4 (Y : W32) : wordB (bitsL (be4 (wI Y))) = Y := by
  apply BitVec.eq_of_getLsbD_eq
  intro i hi
  have := wordB_bit (bitsL (be4 (wI Y))) (31 - i) (by omega)
  rw [show 31 - (31 - i) = i by omega] at this
  rw [this, bits_be4, List.getD_eq_getElem?_getD, List.getElem?_map, List.getElem?_range (by omega)]
  simp only [Option.map_some, Option.getD_some]
  rw [show 31 - (31 - i) = i by omega]
/-- What is left behind bytes and their sum is always the same. -/
theorem feed_summed {p : List Int} (hp : Byt p) : feed (BitVec.allOnes 32) (bitsL (p ++ be4 (sumI p))) = stepN 32 (BitVec.allOnes 32) := by
  have e : sumI p = wI (~~~ (updW (BitVec.allOnes 32) p)) := by
    unfold sumI crcW
    rw [show ~~~ (0#32 : W32) = BitVec.allOnes 32 by decide]
  rw [bitsL_app, feed_app, ← updW_feed p _ hp, e]
  generalize updW (BitVec.allOnes 32) p = R
  rw [feed_word _ _ (by rw [bitsL_len]; simp [be4]), bitsL_len, word_be4]
  have : R ^^^ ~~~R = BitVec.allOnes 32 := by
    apply BitVec.eq_of_getLsbD_eq
    intro i hi
    rw [BitVec.getLsbD_xor, BitVec.getLsbD_not, BitVec.getLsbD_allOnes]
    cases R.getLsbD i <;> simp [hi]
  rw [this]
  rfl
/-- Two rows of bytes with right sums do not differ by a burst. -/
theorem burst_told {p p' t' : List Int} (hp : Byt p) (hp' : Byt p') (ht' : Byt t') (hl : p'.length = p.length) (h4 : t'.length = 4) {a : Nat} {g : Nat → Bool}
    (hd : ∀ q, q < 8 * (p.length + 4) → bitAt (p' ++ t') q = (bitAt (p ++ be4 (sumI p)) q ^^ g q)) (ha : a < 8 * (p.length + 4)) (ga : g a = true) (g0 : ∀ q, q < a → g q = false) (g1 : ∀ q, a + 32 ≤ q → g q = false) :
    t' ≠ be4 (sumI p') := by
  rintro rfl
  have h1 := feed_summed hp
  have h2 := feed_summed hp'
  have hz := feed_xor (bitsL (p' ++ be4 (sumI p'))) (bitsL (p ++ be4 (sumI p))) (BitVec.allOnes 32) (BitVec.allOnes 32) (by rw [bitsL_len, bitsL_len, List.length_append, List.length_append, hl]; rfl)
  rw [h1, h2, BitVec.xor_self, BitVec.xor_self] at hz
  have hb : (be4 (sumI p)).length = 4 := rfl
  have hb' : (be4 (sumI p')).length = 4 := rfl
  have key : ∀ q, (List.zipWith (· ^^ ·) (bitsL (p' ++ be4 (sumI p'))) (bitsL (p ++ be4 (sumI p)))).getD q false = (decide (q < 8 * (p.length + 4)) && g q) := fun q => by
    have l1 : (bitsL (p' ++ be4 (sumI p'))).length = 8 * (p.length + 4) := by rw [bitsL_len, List.length_append, hl, hb']
    have l2 : (bitsL (p ++ be4 (sumI p))).length = 8 * (p.length + 4) := by rw [bitsL_len, List.length_append, hb]
    rw [List.getD_eq_getElem?_getD, List.getElem?_zipWith]
    by_cases hq : q < 8 * (p.length + 4)
    · have q1 := bitsL_get (p' ++ be4 (sumI p')) q
      have q2 := bitsL_get (p ++ be4 (sumI p)) q
      rw [List.getD_eq_getElem?_getD, List.getElem?_eq_getElem (by omega), Option.getD_some] at q1 q2
      rw [List.getElem?_eq_getElem (by omega), List.getElem?_eq_getElem (by omega)]
      simp only [Option.getD_some]
      rw [q1, q2, hd q hq]
      simp only [hq, decide_true, Bool.true_and]
      generalize bitAt (p ++ be4 (sumI p)) q = u
      cases u <;> simp
    · rw [List.getElem?_eq_none (by omega)]
      simp [hq]
  refine burst_ne (a := a) ?_ (fun q hq => ?_) (fun q hq => ?_) hz
  · rw [key]; simp [ha, ga]
  · rw [key, g0 q hq]; simp
  · rw [key, g1 q hq]; simp
end Go.V
