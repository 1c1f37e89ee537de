/- Plain Lean: a payload's length; unlike lists have unlike payloads. -/
import Derived.Test.YtcgejfmbhpmjfaaVDecR
set_option linter.unusedSimpArgs false
set_option linter.unusedVariables false
set_option maxRecDepth 20000
namespace Go.Proofs.Ytcgejfmbhpmjfaa
open Go Go.V
theorem flat4 : ∀ (l : List Int), (∀ x ∈ l, x < 268435456) → (l.flatMap vput).length ≤ l.length * 4
  | [], _ => by simp
  | x :: l, h => by
    have ih := flat4 l fun y hy => h y (List.mem_cons_of_mem _ hy)
    have hx := h x List.mem_cons_self
    have : vlen (max x 0) ≤ 4 := vlen_bound 4 _ (by omega) (by omega)
    rw [List.flatMap_cons, List.length_append, vput_len, List.length_cons]
    omega
theorem enc_out {ps : List Pr} {ys : List Int} (h : encR ps = (some ys, 0)) : 0 < ys.length ∧ ys.length ≤ 801 := by
  obtain ⟨h1, h2, h3, h4, rfl⟩ := enc_some h
  have hb := fun x hx => enc_nums h x hx
  rw [numsI] at *
  have e1 : vlen (max (ps.length : Int) 0) = 1 := vlen_lt (by omega)
  have e2 := flat4 ((List.range ps.length).flatMap fun j => [dU ps j, dV ps j]) fun x hx => by have := hb x (List.mem_cons_of_mem _ hx); omega
  have e3 := nums_len ps
  rw [numsI, List.length_cons] at e3
  rw [List.flatMap_cons, List.length_append, vput_len, e1]
  omega
/-- One of two sequences of numbers begins the other if its bytes do. -/
theorem flat_pre : ∀ (A B : List Int) (r : List Int), (∀ x ∈ A, 0 ≤ x ∧ x < 16777216) → (∀ x ∈ B, 0 ≤ x ∧ x < 16777216) → A.flatMap vput ++ r = B.flatMap vput → ∃ C, B = A ++ C
  | [], B, _, _, _, _ => ⟨B, rfl⟩
  | a :: A, [], r, ha, _, h => by
    have := congrArg List.length h
    rw [List.flatMap_cons, List.length_append, List.length_append, vput_len] at this
    have := vlen_pos (max a 0)
    simp at *
    omega
  | a :: A, b :: B, r, ha, hb, h => by
    have a1 := ha a List.mem_cons_self
    have b1 := hb b List.mem_cons_self
    rw [List.flatMap_cons, List.flatMap_cons, List.append_assoc] at h
    have h1 := vform_vput a1.1 (by omega) (A.flatMap vput ++ r)
    have h2 := vform_vput b1.1 (by omega) (B.flatMap vput)
    rw [h, h2] at h1
    have hab : b = a := congrArg Prod.fst h1
    subst hab
    have h3 := List.append_cancel_left h
    obtain ⟨C, hC⟩ := flat_pre A B r (fun x hx => ha x (List.mem_cons_of_mem _ hx)) (fun x hx => hb x (List.mem_cons_of_mem _ hx)) h3
    exact ⟨C, by rw [hC]; rfl⟩
theorem nums_inj {ps qs : List Pr} {xs ys : List Int} (h : encR ps = (some xs, 0)) (k : encR qs = (some ys, 0)) (he : numsI ps = numsI qs) : ps = qs := by
  have hl : ps.length = qs.length := by
    have := congrArg List.length he
    rw [nums_len, nums_len] at this
    omega
  have key : ∀ i, i ≤ ps.length → ps.take i = qs.take i := by
    intro i
    induction i with
    | zero => intro _; simp
    | succ i ih =>
      intro hi
      have h1 := enc_arc h (i := i) (by omega)
      have h2 := enc_arc k (i := i) (by omega)
      obtain ⟨n1, n2⟩ := nums_get ps (j := i) (by omega)
      obtain ⟨n3, n4⟩ := nums_get qs (j := i) (by omega)
      rw [he] at n1 n2
      rw [n1] at n3
      rw [n2] at n4
      rw [ih (by omega), n3, n4, h2] at h1
      rw [take_succ_getD (by omega) (0, 0), take_succ_getD (by omega) (0, 0), ih (by omega), h1]
  have := key ps.length (Nat.le_refl _)
  rw [List.take_length, hl, List.take_length] at this
  exact this
/-- Of two payloads none begins the other, but itself. -/
theorem enc_pre {ps qs : List Pr} {xs ys r : List Int} (h : encR ps = (some xs, 0)) (k : encR qs = (some ys, 0)) (he : xs ++ r = ys) : ps = qs := by
  obtain ⟨_, _, _, _, e1⟩ := enc_some h
  obtain ⟨_, _, _, _, e2⟩ := enc_some k
  obtain ⟨C, hC⟩ := flat_pre (numsI ps) (numsI qs) r (enc_nums h) (enc_nums k) (by rw [← e1, ← e2]; exact he)
  have hl : ps.length = qs.length := by
    have := congrArg (fun l => l.head?) hC
    simp only [numsI, List.cons_append, List.head?_cons, Option.some.injEq] at this
    omega
  refine nums_inj h k ?_
  have h1 := nums_len ps
  have h2 := nums_len qs
  have h3 := congrArg List.length hC
  rw [List.length_append] at h3
  have : C = [] := List.eq_nil_of_length_eq_zero (by omega)
  rw [hC, this, List.append_nil]
theorem enc_alike {ps qs : List Pr} {xs ys : List Int} (h : encR ps = (some xs, 0)) (k : encR qs = (some ys, 0)) : decide (xs.take (min xs.length ys.length) = ys.take (min xs.length ys.length)) = decide (ps = qs) := by
  rw [decide_eq_decide]
  constructor
  · intro e
    rcases Nat.le_total xs.length ys.length with hle | hle
    · rw [Nat.min_eq_left hle, List.take_length] at e
      refine enc_pre (r := ys.drop xs.length) h k ?_
      rw [e, List.length_take, Nat.min_eq_left hle]
      exact List.take_append_drop _ _
    · rw [Nat.min_eq_right hle, List.take_length] at e
      refine (enc_pre (r := xs.drop ys.length) k h ?_).symm
      rw [← e, List.length_take, Nat.min_eq_left hle]
      exact List.take_append_drop _ _
  · rintro rfl
    rw [h] at k
    cases k
    rfl
theorem own_int {H : Heap} {B : Nat} {e : TypeId} {v : Value} {ys : List Int} (h : Own H B e 1 v (ys.map (.int .u8))) : v = .slice none 0 0 ∧ ys = [] ∨ ∃ g cap, v = .slice (some ⟨g, 0, none⟩) ys.length cap ∧ ys.length ≤ cap := by
  rcases h with ⟨h1, h2⟩ | ⟨g, len, cap, c, rfl, _, _, hlc, _, _, hl, _⟩
  · exact .inl ⟨h1, by simpa using h2⟩
  · rw [List.length_map, Nat.mul_one] at hl
    exact .inr ⟨g, cap, by rw [hl], by omega⟩
end Go.Proofs.Ytcgejfmbhpmjfaa
