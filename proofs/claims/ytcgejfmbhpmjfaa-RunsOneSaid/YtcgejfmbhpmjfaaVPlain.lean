/- Plain laws of the number forms and of the checkpoints: what is read back is what was put, and what is taken is what is put. -/
import Derived.Test.YtcgejfmbhpmjfaaVRrdr
set_option linter.unusedSimpArgs false
set_option linter.unusedVariables false
set_option maxRecDepth 20000
namespace Go.Proofs.Ytcgejfmbhpmjfaa
open Go Go.V

/-- The form of one number: all but the last byte have the high bit. -/
def Form : List Int → Prop
  | [] => False
  | [y] => 0 ≤ y ∧ y < 128
  | y :: z :: r => (128 ≤ y ∧ y < 256) ∧ Form (z :: r)
theorem vval_cons (y : Int) (r : List Int) : vval (y :: r) = (y % 128) * 128 ^ r.length + vval r := by
  have key : ∀ (r : List Int) (a : Int), r.foldl (fun a x => a * 128 + x % 128) a = a * 128 ^ r.length + r.foldl (fun a x => a * 128 + x % 128) 0 := by
    intro r
    induction r with
    | nil => intro a; simp
    | cons z r ih =>
      intro a
      rw [List.foldl_cons, List.foldl_cons, ih, ih (0 * 128 + z % 128), List.length_cons, Int.pow_succ]
      rw [Int.add_mul, Int.zero_mul, Int.zero_add, Int.add_assoc]
      congr 1
      rw [Int.mul_assoc, Int.mul_comm 128]
  unfold vval
  rw [List.foldl_cons, key]
  simp
theorem p128 (n : Nat) : (0 : Int) < 128 ^ n := Int.pow_pos (by omega)
/-- x in base 128. -/
theorem vtail_eq : ∀ {ys : List Int}, Form ys → ∀ {x q : Int}, x = q * 128 ^ ys.length + vval ys → vtail x ys.length = ys
  | [y], h, x, q, hx => by
    obtain ⟨h0, h1⟩ := h
    have hv : vval [y] = y := by simp [vval]; omega
    rw [hv] at hx
    simp only [List.length_singleton, Int.pow_one] at hx
    simp only [List.length_singleton, vtail, if_true, Int.pow_zero, Int.ediv_one]
    congr 1
    omega
  | y :: z :: r, ⟨⟨h0, h1⟩, hf⟩, x, q, hx => by
    rw [vval_cons, List.length_cons, Int.pow_succ] at hx
    have hb := vval_lt (z :: r)
    have hp := p128 (z :: r).length
    have hx2 : x = (q * 128 + y % 128) * 128 ^ (z :: r).length + vval (z :: r) := by
      rw [hx, Int.add_mul, Int.mul_assoc q, Int.mul_comm 128, ← Int.add_assoc]
    have ih := vtail_eq hf hx2
    have hd : x / 128 ^ (z :: r).length = q * 128 + y % 128 := by
      rw [hx2, Int.add_comm, Int.add_mul_ediv_right _ _ (by omega), Int.ediv_eq_zero_of_lt hb.1 hb.2, Int.zero_add]
    rw [List.length_cons, vtail, ih, hd, if_neg (by simp)]
    congr 1
    omega
theorem vlen_pow : ∀ (n : Nat) {x : Int}, (n = 0 ∨ 128 ^ n ≤ x) → x < 128 ^ (n + 1) → vlen x = n + 1
  | 0, x, _, h => vlen_lt (by simp at h; omega)
  | n + 1, x, h0, h1 => by
    have h0 : (128 : Int) ^ (n + 1) ≤ x := h0.resolve_left (by omega)
    have hp := p128 n
    rw [Int.pow_succ] at h0 h1
    have hp1 := p128 (n + 1)
    have h128 : 128 ≤ x := by omega
    rw [vlen_ge h128, vlen_pow n (x := x / 128) ?_ (by omega)]
    exact .inr (by omega)
theorem form_len {ys : List Int} (h : Form ys) : 0 < ys.length := by
  cases ys with
  | nil => exact h.elim
  | cons y ys => simp
/-- A form whose first byte is not 128 is the form of its value. -/
theorem vput_vval {ys : List Int} (h : Form ys) (hh : ys.head? ≠ some 128) : vput (vval ys) = ys := by
  have hb := vval_lt ys
  have hm : max (vval ys) 0 = vval ys := Int.max_eq_left hb.1
  have hl := form_len h
  have hv : vlen (vval ys) = ys.length := by
    have := vlen_pow (ys.length - 1) (x := vval ys) ?_ (by rw [show ys.length - 1 + 1 = ys.length by omega]; exact hb.2)
    · omega
    · match ys, h, hh with
      | [y], _, _ => exact .inl rfl
      | y :: z :: r, h, hh =>
        right
        rw [vval_cons]
        obtain ⟨⟨h0, h1⟩, _⟩ := h
        have hr := vval_lt (z :: r)
        have hp := p128 (z :: r).length
        have hy : y ≠ 128 := by simpa using hh
        have hy1 : 1 ≤ y % 128 := by omega
        have := Int.mul_le_mul_of_nonneg_right hy1 (Int.le_of_lt hp)
        simp only [List.length_cons, Nat.add_sub_cancel] at *
        omega
  rw [vput, hm, hv]
  exact vtail_eq h (q := 0) (by simp)
theorem vtail_form (x : Int) : ∀ n, Form (vtail x (n + 1))
  | 0 => by simp only [vtail, if_true, Form]; omega
  | n + 1 => by
    have := vtail_form x n
    show Form (((x / 128 ^ (n + 1)) % 128 + if n + 1 = 0 then 0 else 128) :: vtail x (n + 1))
    rw [if_neg (by omega)]
    cases h : vtail x (n + 1) with
    | nil => rw [h] at this; exact this.elim
    | cons z r =>
      rw [h] at this
      exact ⟨by omega, this⟩
theorem vval_vtail {x : Int} : ∀ n, ∃ q, x = q * 128 ^ n + vval (vtail x n)
  | 0 => ⟨x, by simp [vtail, vval]⟩
  | n + 1 => by
    obtain ⟨q, hq⟩ := vval_vtail (x := x) n
    have hb := vval_lt (vtail x n)
    rw [vtail_len] at hb
    have hp := p128 n
    have hd : x / 128 ^ n = q := by
      conv => lhs; rw [hq]
      rw [Int.add_comm, Int.add_mul_ediv_right _ _ (by omega), Int.ediv_eq_zero_of_lt hb.1 hb.2, Int.zero_add]
    refine ⟨q / 128, ?_⟩
    rw [vtail, vval_cons, vtail_len, hd]
    have he : (q % 128 + if n = 0 then 0 else 128) % 128 = q % 128 := by split <;> omega
    rw [he, Int.pow_succ]
    have h1 : q = q / 128 * 128 + q % 128 := by omega
    have h2 : q * 128 ^ n = (q / 128 * 128 + q % 128) * 128 ^ n := by rw [← h1]
    rw [Int.add_mul] at h2
    rw [Int.mul_comm (128 ^ n) 128, ← Int.mul_assoc]
    omega
theorem vlen_pow' {x : Int} (h0 : 0 ≤ x) : ∀ n, x < 128 ^ (n + 1) → ∃ m, m ≤ n ∧ vlen x = m + 1 ∧ (m = 0 ∨ 128 ^ m ≤ x) ∧ x < 128 ^ (m + 1)
  | 0, h => ⟨0, by omega, vlen_pow 0 (.inl rfl) h, .inl rfl, h⟩
  | n + 1, h => by
    by_cases hx : x < 128 ^ (n + 1)
    · obtain ⟨m, h1, h2⟩ := vlen_pow' h0 n hx
      exact ⟨m, by omega, h2⟩
    · exact ⟨n + 1, by omega, vlen_pow (n + 1) (.inr (by omega)) h, .inr (by omega), h⟩
theorem form_get : ∀ {ys : List Int}, Form ys → ∀ rest, (∀ k, k < ys.length - 1 → 128 ≤ (ys ++ rest).getD k 0) ∧ (ys ++ rest).getD (ys.length - 1) 0 < 128
  | [y], h, rest => by
    refine ⟨fun k hk => by simp at hk, ?_⟩
    simpa using h.2
  | y :: z :: r, ⟨h0, hf⟩, rest => by
    obtain ⟨h1, h2⟩ := form_get hf rest
    refine ⟨fun k hk => ?_, ?_⟩
    · cases k with
      | zero => simpa using h0.1
      | succ k =>
        have := h1 k (by simp at hk ⊢; omega)
        simpa using this
    · simpa using h2
/-- What was put is read back. -/
theorem vform_vput {x : Int} (h0 : 0 ≤ x) (h1 : x < 9223372036854775808) (rest : List Int) : vform (vput x ++ rest) = (x, ((vput x).length : Int), 0) := by
  obtain ⟨m, hm, hl, hlo, hhi⟩ := vlen_pow' h0 8 h1
  have hmax : max x 0 = x := Int.max_eq_left h0
  have hput : vput x = vtail x (m + 1) := by rw [vput, hmax, hl]
  have hf := vtail_form x m
  have hlen := vtail_len x (m + 1)
  have hval : vval (vtail x (m + 1)) = x := by
    obtain ⟨q, hq⟩ := vval_vtail (x := x) (m + 1)
    have hb := vval_lt (vtail x (m + 1))
    rw [hlen] at hb
    have hp := p128 (m + 1)
    have hq0 : q = 0 := by
      have h2 : x / 128 ^ (m + 1) = q := by
        conv => lhs; rw [hq]
        rw [Int.add_comm, Int.add_mul_ediv_right _ _ (by omega), Int.ediv_eq_zero_of_lt hb.1 hb.2, Int.zero_add]
      rw [← h2]
      exact Int.ediv_eq_zero_of_lt h0 hhi
    rw [hq0] at hq
    omega
  rw [hput]
  obtain ⟨g1, g2⟩ := form_get hf rest
  rw [hlen, Nat.add_sub_cancel] at g1 g2
  have hlead : lead 9 (vtail x (m + 1) ++ rest) = m := lead_eq g1 (.inr (.inr g2)) (by omega) (by simp [hlen]; omega)
  have hh : (vtail x (m + 1) ++ rest).head? ≠ some 128 := by
    rcases hlo with rfl | hlo
    · simp only [vtail, if_true, Int.pow_zero, Int.ediv_one, List.cons_append, List.head?_cons, ne_eq, Option.some.injEq]
      omega
    · have hp := p128 m
      have hd1 : 1 ≤ x / 128 ^ m := by rw [Int.le_ediv_iff_mul_le hp]; omega
      have hd2 : x / 128 ^ m < 128 := by rw [Int.ediv_lt_iff_lt_mul hp, Int.mul_comm, ← Int.pow_succ]; exact hhi
      simp only [vtail, List.cons_append, List.head?_cons, ne_eq, Option.some.injEq]
      split <;> omega
  unfold vform
  rw [if_neg hh, hlead, if_neg (by omega), if_neg (by simp [hlen]; omega)]
  have ht : (vtail x (m + 1) ++ rest).take (m + 1) = vtail x (m + 1) := by
    rw [List.take_append_of_le_length (by omega), List.take_of_length_le (by omega)]
  rw [ht, hval, hlen]
  rfl
theorem lead_form : ∀ (n : Nat) {ys : List Int}, Byt ys → lead n ys < n → lead n ys < ys.length → Form (ys.take (lead n ys + 1))
  | 0, ys, _, h, _ => by omega
  | n + 1, [], _, _, h => by simp at h
  | n + 1, y :: ys, hw, h1, h2 => by
    have hy := hw y (by simp)
    have hw' : Byt ys := fun z hz => hw z (by simp [hz])
    simp only [lead] at h1 h2 ⊢
    by_cases h128 : 128 ≤ y
    · rw [if_pos h128] at h1 h2 ⊢
      have ih := lead_form n hw' (by omega) (by simp at h2; omega)
      rw [List.take_succ_cons]
      cases ht : ys.take (lead n ys + 1) with
      | nil => rw [ht] at ih; exact ih.elim
      | cons z r =>
        rw [ht] at ih
        exact ⟨⟨h128, hy.2⟩, ih⟩
    · rw [if_neg h128]
      exact ⟨hy.1, by omega⟩
/-- What is taken is what is put. -/
theorem vform_canon {ys : List Int} (hw : Byt ys) (h : (vform ys).2.2 = 0) : ys.take (vform ys).2.1.toNat = vput (vform ys).1 ∧ 0 ≤ (vform ys).1 := by
  unfold vform at h ⊢
  split
  · rename_i h1; rw [if_pos h1] at h; simp at h
  · rename_i h1
    rw [if_neg h1] at h
    split
    · rename_i h2; rw [if_pos h2] at h; simp at h
    · rename_i h2
      rw [if_neg h2] at h
      split
      · rename_i h3; rw [if_pos h3] at h; simp at h
      · rename_i h3
        have hle := lead_le 9 ys
        have hf := lead_form 9 hw (by omega) (by omega)
        refine ⟨?_, (vval_lt _).1⟩
        simp only
        rw [show ((lead 9 ys : Int) + 1).toNat = lead 9 ys + 1 by omega]
        refine (vput_vval hf ?_).symm
        rw [List.head?_take]
        simpa using h1
end Go.Proofs.Ytcgejfmbhpmjfaa
