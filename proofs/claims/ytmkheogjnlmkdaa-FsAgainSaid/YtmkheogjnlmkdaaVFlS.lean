/- The power, armed; what stays behind a crash. -/
import Derived.Test.YtmkheogjnlmkdaaVFlQ
set_option linter.unusedSimpArgs false
set_option linter.unusedVariables false
set_option maxRecDepth 20000
namespace Go.V
open Go
theorem countA {s : St} (h : 0 < s.fuse) : (s.fuse = 1 ∧ countS s = ({ s with ops := s.ops + 1, fuse := 0, off := true }, 81)) ∨ (1 < s.fuse ∧ countS s = ({ s with ops := s.ops + 1, fuse := s.fuse - 1 }, 0)) := by
  unfold countS
  rw [if_pos h]
  by_cases h1 : s.fuse = 1
  · rw [if_pos h1]; exact .inl ⟨h1, rfl⟩
  · rw [if_neg h1]; exact .inr ⟨by omega, rfl⟩
/-- A step with the power off. -/
theorem does_off {s : St} (ho : s.off = true) (t : Stp) (x : Nat) (hk : 1 ≤ t.kind ∧ t.kind ≤ 6) : doesS s t x = (s, 81) := by
  rcases does_dark ho t x with h | ⟨h, _⟩
  · exact h
  · omega
/-- A step with the power armed. -/
theorem does_arm {s : St} (ho : s.off = false) (hf : 0 < s.fuse) (t : Stp) (x : Nat) (hk : 1 ≤ t.kind ∧ t.kind ≤ 6) :
    ((doesS s t x).1 = s ∧ (doesS s t x).2 ≠ 0 ∧ (doesS s t x).2 ≠ 81) ∨
    (s.fuse = 1 ∧ (doesS s t x).2 = 81 ∧ (doesS s t x).1.fuse = 0 ∧ (doesS s t x).1.off = true ∧ (doesS s t x).1.ops = s.ops + 1) ∨
    (1 < s.fuse ∧ (doesS s t x).2 = 0 ∧ (doesS s t x).1.fuse = s.fuse - 1 ∧ (doesS s t x).1.off = false ∧ (doesS s t x).1.ops = s.ops + 1) := by
  have w := does_went s t x
  generalize doesS s t x = r at w
  have go : ∀ u : St, u.fuse = s.fuse → u.off = s.off → u.ops = s.ops → (s.fuse = 1 ∧ (countS u).2 = 81 ∧ (countS u).1.fuse = 0 ∧ (countS u).1.off = true ∧ (countS u).1.ops = s.ops + 1) ∨ (1 < s.fuse ∧ (countS u).2 = 0 ∧ (countS u).1.fuse = s.fuse - 1 ∧ (countS u).1.off = false ∧ (countS u).1.ops = s.ops + 1) := by
    intro u h1 h2 h3
    rcases countA (s := u) (by omega) with ⟨h, e⟩ | ⟨h, e⟩
    · rw [e]; exact .inl ⟨by omega, rfl, rfl, rfl, by rw [← h3]⟩
    · rw [e]; exact .inr ⟨by omega, rfl, by rw [← h1], by show u.off = false; rw [h2, ho], by rw [← h3]⟩
  cases w with
  | no e h h0 =>
    refine .inl ⟨rfl, ?_, ?_⟩
    · show e ≠ 0; rcases h0 with h0 | h0 | h0
      · exact h0
      · omega
      · omega
    · show e ≠ 81; rcases h with h | h
      · exact h
      · rw [ho] at h; cases h
  | create h h0 hn => exact .inr (go _ rfl rfl rfl)
  | append h h0 y hn hr => exact .inr (go _ rfl rfl rfl)
  | sync h h0 y hn =>
    right
    rcases go s rfl rfl rfl with g | g
    · rw [if_neg (by rw [g.2.1]; decide)]; exact .inl g
    · rw [if_pos g.2.1]; exact .inr ⟨g.1, rfl, g.2.2.1, g.2.2.2.1, g.2.2.2.2⟩
  | rename h h0 y hn => exact .inr (go _ rfl rfl rfl)
  | remove h h0 y hn => exact .inr (go _ rfl rfl rfl)
  | syncdir h h0 =>
    right
    rcases go s rfl rfl rfl with g | g
    · rw [if_neg (by rw [g.2.1]; decide)]; exact .inl g
    · rw [if_pos g.2.1]; exact .inr ⟨g.1, rfl, g.2.2.1, g.2.2.2.1, g.2.2.2.2⟩
theorem count_on {u : St} (h : (countS u).2 = 0) : (countS u).1.off = u.off := by
  unfold countS at *
  by_cases hf : 0 < u.fuse
  · rw [if_pos hf] at *
    by_cases h1 : u.fuse = 1
    · rw [if_pos h1] at h; exact absurd (show (81 : Int) = 0 from h) (by decide)
    · rw [if_neg h1]
  · rw [if_neg hf]
theorem does_on0 {s : St} (ho : s.off = false) {t : Stp} {x : Nat} (h : (doesS s t x).2 = 0) : (doesS s t x).1.off = false := by
  have w := does_went s t x
  generalize doesS s t x = r at w h
  cases w with
  | no e _ _ => exact ho
  | create _ _ _ => exact (count_on h).trans ho
  | append _ _ y hn hr => exact (count_on h).trans ho
  | sync _ _ y hn =>
    by_cases hc : (countS s).2 = 0
    · rw [if_pos hc]; exact (count_on hc).trans ho
    · rw [if_neg hc] at h; exact absurd h hc
  | rename _ _ y hn => exact (count_on h).trans ho
  | remove _ _ y hn => exact (count_on h).trans ho
  | syncdir _ _ =>
    by_cases hc : (countS s).2 = 0
    · rw [if_pos hc]; exact (count_on hc).trans ho
    · rw [if_neg hc] at h; exact absurd h hc
theorem cuts_keep (cuts : List Int) : ∀ (ns : List Nm) (j : Nat) (s : St), (cutsS cuts s ns j).ops = s.ops ∧ (cutsS cuts s ns j).room = s.room ∧ (cutsS cuts s ns j).now = s.now ∧ (cutsS cuts s ns j).held = s.held
  | [], j, s => ⟨rfl, rfl, rfl, rfl⟩
  | n :: ns, j, s => by
    unfold cutsS
    cases s.now n with
    | none => exact cuts_keep cuts ns (j + 1) s
    | some x =>
      obtain ⟨a, b, c, d⟩ := cuts_keep cuts ns (j + 1) (cutS s x (moreI cuts j))
      exact ⟨a, b, c, d⟩
theorem crash_ops (s : St) (dir : Int) (cuts : List Int) (ns : List Nm) : (crashS s dir cuts ns).ops = s.ops ∧ (crashS s dir cuts ns).room = s.room ∧ (crashS s dir cuts ns).off = false ∧ (crashS s dir cuts ns).fuse = 0 ∧ (crashS s dir cuts ns).pend = [] ∧ (crashS s dir cuts ns).now = afterD s.last dir s.pend 0 ∧ (crashS s dir cuts ns).last = afterD s.last dir s.pend 0 := by
  obtain ⟨a, b, c, d⟩ := cuts_keep cuts ns 0 { s with now := afterD s.last dir s.pend 0 }
  exact ⟨a, b, rfl, rfl, rfl, c, c⟩
end Go.V
