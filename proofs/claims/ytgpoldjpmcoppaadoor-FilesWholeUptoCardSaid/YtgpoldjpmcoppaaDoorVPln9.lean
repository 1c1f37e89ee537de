/- Files written where nothing fails: plainly. -/
import Derived.Test.YtgpoldjpmcoppaaDoorVHlp9
set_option linter.unusedSimpArgs false
set_option linter.unusedVariables false
set_option maxRecDepth 20000
namespace Go.V
open Go
/-- The power is on, and no operation is armed. -/
structure Peace (s : St) : Prop where
  ok : Ok s
  on : s.off = false
  arm : s.fuse = 0
theorem count_calm {s : St} (h : s.fuse = 0) : countS s = ({ s with ops := s.ops + 1 }, 0) := by
  unfold countS; rw [if_neg (by omega)]
theorem begin_calm {s : St} (h : s.off = false) {n : Nm} (hn : isNm n = true) : beginS s [n] = 0 := by
  unfold beginS; simp [hn, h]
theorem find_calm {s : St} (h : Peace s) {n : Nm} {x : Nat} (hx : s.now n = some x) : findS s n = (some x, 0) := by
  unfold findS
  rw [begin_calm h.on (h.ok.nowN _ _ hx)]
  simp [hx]
theorem append_calm {s : St} (h : Peace s) {n : Nm} {x : Nat} (hx : s.now n = some x) {b : List Int} (hr : (b.length : Int) ≤ s.room - heldS s) :
    appendS s n b = ({ s with ops := s.ops + 1, dat := setF s.dat x (s.dat x ++ b) }, 0) := by
  unfold appendS
  rw [find_calm h hx]
  simp only
  rw [if_neg (by omega)]
  exact count_calm h.arm
theorem sync_calm {s : St} (h : Peace s) {n : Nm} {x : Nat} (hx : s.now n = some x) : syncS s n = ({ s with ops := s.ops + 1, syn := setF s.syn x (s.dat x).length }, 0) := by
  unfold syncS
  rw [find_calm h hx]
  simp only
  rw [count_calm h.arm]
  simp
theorem create_calm {s : St} (h : Peace s) {n : Nm} {x : Nat} (hn : isNm n = true) (hx : s.now n = none) :
    createS s n x = ({ s with ops := s.ops + 1, now := moveD s.now x n, pend := s.pend ++ [(x, n)], held := s.held ++ [x], dat := setF s.dat x [], syn := setF s.syn x 0 }, 0) := by
  unfold createS
  rw [begin_calm h.on hn, hx]
  simp only [ne_eq, not_true, if_false]
  unfold pendS addS
  exact count_calm h.arm
theorem read_calm {s : St} (h : Peace s) {n : Nm} {x : Nat} (hx : s.now n = some x) {a k : Int} (ha : 0 ≤ a) (hk : 0 ≤ k) : readS s n a k = (((s.dat x).drop a.toNat).take k.toNat, 0) := by
  unfold readS
  rw [find_calm h hx]
  simp only
  rw [if_neg (by omega)]
theorem size_calm {s : St} (h : Peace s) {n : Nm} {x : Nat} (hx : s.now n = some x) : sizeS s n = (((s.dat x).length : Int), 0) := by
  unfold sizeS
  rw [find_calm h hx]
theorem setF_same {α : Type} (f : Nat → α) (x : Nat) (v : α) : setF f x v x = v := if_pos rfl
theorem setF_ne {α : Type} (f : Nat → α) (x : Nat) (v : α) {y : Nat} (h : y ≠ x) : setF f x v y = f y := if_neg h
theorem move_same {D : Dir} {x : Nat} {n : Nm} (hn : n ≠ emptyNm) : moveD D x n n = some x := by unfold moveD; rw [if_pos ⟨rfl, hn⟩]
theorem move_ne {D : Dir} {x : Nat} {n m : Nm} (hm : m ≠ n) (hx : D m ≠ some x) : moveD D x n m = D m := by
  unfold moveD; rw [if_neg (fun h => hm h.1), if_neg hx]
theorem isNm_ne {n : Nm} (h : isNm n = true) : n ≠ emptyNm := by
  rintro rfl
  revert h
  decide
end Go.V
namespace Go.Proofs.YtgpoldjpmcoppaaDoor
open Go Go.V
/-- Frames, one behind the other. -/
def rowB (r : List (Int × List Int)) : List Int := (r.map fun f => encL f.1 f.2).flatten
theorem rowB_snoc (r : List (Int × List Int)) (k : Int) (p : List Int) : rowB (r ++ [(k, p)]) = rowB r ++ encL k p := by simp [rowB]
def fileR (hd : List Int) (data : List (List Int)) : List (Int × List Int) := (1, hd) :: data.map (fun p => (2, p)) ++ [(3, be4 data.length)]
theorem encE_ok {k : Int} {p : List Int} (hk : k = 1 ∨ k = 2 ∨ k = 3) (hp : p.length ≤ 1024) : encE k p = 0 := by
  unfold encE; rw [if_neg (not_not_intro hk), if_neg (by omega)]
/-- A writer in the midst of a file: x is its file, r the frames so far, c the sum of what they hold. -/
structure WrI (s : St) (w : WrS) (x : Nat) (r : List (Int × List Int)) : Prop where
  now : s.now w.name = some x
  dat : s.dat x = rowB r
  size : w.size = (rowB r).length
theorem put_calm {s : St} {w : WrS} {x : Nat} {r : List (Int × List Int)} (h : Peace s) (hw : WrI s w x r) {k : Int} {p : List Int} (hk : k = 1 ∨ k = 2 ∨ k = 3) (hp : p.length ≤ 1024) (hb : Byt p) (hr : (12 + p.length : Int) ≤ s.room - heldS s) :
    ∃ s', putS s w k p = (s', { w with size := w.size + (12 + p.length), sum := if k = 3 then w.sum else crcW w.sum p }, 0) ∧ s' = { s with ops := s.ops + 1, dat := setF s.dat x (rowB (r ++ [(k, p)])) } ∧ Peace s' ∧ heldS s' = heldS s + (12 + p.length) ∧
      WrI s' { w with size := w.size + (12 + p.length), sum := if k = 3 then w.sum else crcW w.sum p } x (r ++ [(k, p)]) := by
  have hx := h.ok.nowH _ _ hw.now
  have ha := append_calm h hw.now (b := encL k p) (by rw [encL_len]; omega)
  rw [hw.dat, ← rowB_snoc] at ha
  have hok := append_ok h.ok w.name (encL_byt (k := k) hb)
  rw [ha] at hok
  refine ⟨_, ?_, rfl, ⟨hok, h.on, h.arm⟩, ?_, ⟨hw.now, setF_same _ _ _, ?_⟩⟩
  · unfold putS
    rw [if_neg (not_not_intro (encE_ok hk hp)), ha, if_neg (by simp)]
  · have := sum_set h.ok hx (rowB (r ++ [(k, p)]))
    have e : heldS { s with ops := s.ops + 1, dat := setF s.dat x (rowB (r ++ [(k, p)])) } = heldS { s with dat := setF s.dat x (rowB (r ++ [(k, p)])) } := rfl
    rw [e, this, hw.dat, rowB_snoc, List.length_append, encL_len]
    omega
  · have := hw.size
    rw [rowB_snoc, List.length_append, encL_len]
    simp only
    omega
theorem decF_enc {k : Int} {p rest : List Int} (hk : k = 1 ∨ k = 2 ∨ k = 3) (hp : p.length ≤ 1024) : decF (encL k p ++ rest) = (k, p, (12 + p.length : Int), 0) := by
  obtain ⟨S0, S1, S2, S3, hS⟩ : ∃ a b c d, be4 (sumI (headB k p.length)) = [a, b, c, d] := ⟨_, _, _, _, rfl⟩
  obtain ⟨Z0, Z1, Z2, Z3, hZ⟩ : ∃ a b c d, be4 (sumI p) = [a, b, c, d] := ⟨_, _, _, _, rfl⟩
  have hH : headL k p.length = [112, k % 256, (p.length : Int) / 256 % 256, (p.length : Int) % 256, S0, S1, S2, S3] := by
    unfold headL; rw [hS]; rfl
  have hL : encL k p ++ rest = 112 :: k % 256 :: (p.length : Int) / 256 % 256 :: (p.length : Int) % 256 :: S0 :: S1 :: S2 :: S3 :: (p ++ ([Z0, Z1, Z2, Z3] ++ rest)) := by
    unfold encL; rw [hH, hZ]; simp
  have ek : k % 256 = k := by omega
  have en : (p.length : Int) / 256 % 256 * 256 + (p.length : Int) % 256 = p.length := by omega
  have h12 : ¬ (encL k p ++ rest).length < 12 := by rw [List.length_append, encL_len]; omega
  unfold decF
  rw [if_neg h12]
  have g1 : (encL k p ++ rest).getD 1 0 = k := by rw [hL]; simpa using ek
  have g2 : (encL k p ++ rest).getD 2 0 * 256 + (encL k p ++ rest).getD 3 0 = p.length := by rw [hL]; simpa using en
  simp only
  rw [g1, g2]
  have t8 : (encL k p ++ rest).take 8 = headL k p.length := by
    unfold encL
    rw [List.append_assoc, List.append_assoc, List.take_append_of_le_length (by rw [headL_len]; omega), List.take_of_length_le (by rw [headL_len]; omega)]
  have d8 : (encL k p ++ rest).drop 8 = p ++ ([Z0, Z1, Z2, Z3] ++ rest) := by rw [hL]; rfl
  have dn : (encL k p ++ rest).drop (8 + (p.length : Int).toNat) = [Z0, Z1, Z2, Z3] ++ rest := by
    rw [← List.drop_drop, d8, show ((p.length : Int)).toNat = p.length by omega, List.drop_left]
  rw [if_neg, if_neg]
  · rw [d8, show ((p.length : Int)).toNat = p.length by omega, List.take_left]
  · rw [dn, d8, show ((p.length : Int)).toNat = p.length by omega, List.take_left, hZ]
    simp
  · rintro (h | h | h | h)
    · exact h hk
    · omega
    · rw [List.length_append, encL_len] at h; omega
    · exact h t8
end Go.Proofs.YtgpoldjpmcoppaaDoor
