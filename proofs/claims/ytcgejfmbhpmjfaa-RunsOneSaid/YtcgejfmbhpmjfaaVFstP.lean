/- Plain Lean: the answers of the chapter's examples. -/
import Derived.Test.YtcgejfmbhpmjfaaVMerQ
import Derived.Test.YtcgejfmbhpmjfaaVDecR
import Derived.KernelRfl
set_option linter.unusedSimpArgs false
set_option linter.unusedVariables false
set_option maxRecDepth 20000
namespace Go.Proofs.Ytcgejfmbhpmjfaa
open Go Go.V
theorem sort1 : sortP [(3, 1), (1, 2), (3, 1), (1, 0)] = [(1, 0), (1, 2), (3, 1)] := by
  refine (sortP_of ⟨by unfold Up; simp [ltP], fun x => ?_⟩).symm
  simp only [List.mem_cons, List.not_mem_nil, or_false]
  constructor
  · rintro (h | h | h) <;> simp [h]
  · rintro (h | h | h | h) <;> simp [h]
theorem enc1 : encR [(1, 0), (1, 2), (3, 1)] = (some [3, 1, 0, 0, 1, 2, 1], 0) := by kernel_rfl
theorem enc2 : encR [(300, 200)] = (some [1, 130, 44, 129, 72], 0) := by kernel_rfl
theorem enc0 (l : List Pr) : encR l ≠ (some [0], 0) := by
  intro h
  unfold encR at h
  split at h
  · cases h
  · split at h
    · cases h
    · split at h
      · cases h
      · rename_i h1 h2 h3
        have h4 : vput l.length ++ bodyI l l.length = [0] := by simpa using h
        have h5 := vform_vput (x := (l.length : Int)) (by omega) (by omega) (bodyI l l.length)
        rw [h4] at h5
        have h6 : vform [0] = (0, 1, 0) := by kernel_rfl
        rw [h6] at h5
        have h7 := congrArg Prod.fst h5
        simp at h7
        omega
def fS0 : List Src := List.replicate 2 default
def fS1 : List Src := [⟨[(1, 2), (4, 4)], (4, 4), true, false⟩, default]
def fS2 : List Src := [⟨[(1, 2), (4, 4)], (4, 4), true, false⟩, ⟨[(1, 2)], (1, 2), true, true⟩]
def fS3 : List Src := [⟨[(4, 4)], (4, 4), true, false⟩, ⟨[], (1, 2), true, true⟩]
def fS4 : List Src := [⟨[], (4, 4), true, false⟩, ⟨[], (1, 2), true, true⟩]
theorem fGive1 : giveS fS0 0 [(1, 2), (4, 4)] false = (fS1, 0) := by rfl
theorem fGive2 : giveS fS1 1 [(1, 2)] true = (fS2, 0) := by rfl
theorem fNext1 : NextR fS1 none fS1 := .inl ⟨.inl (by decide), rfl, rfl⟩
theorem fWants : wantsS fS1 = 1 := by rfl
theorem fNext2 : NextR fS2 (some (1, 2)) fS3 := .inr ⟨by decide, (1, 2), ⟨⟨_, List.mem_cons_self, rfl⟩, by simp [fS2, ltP]⟩, rfl, by rfl⟩
theorem fNext3 : NextR fS3 (some (4, 4)) fS4 := .inr ⟨by decide, (4, 4), ⟨⟨_, List.mem_cons_self, rfl⟩, by simp [fS3, ltP]⟩, rfl, by rfl⟩
theorem fNext4 : NextR fS4 none fS4 := .inl ⟨.inl (by decide), rfl, rfl⟩
theorem fLeft : leftS fS4 = 0 := by rfl
theorem fLen (i : Nat) : (sg fS0 i).l.length ≤ 10 ∧ (sg fS1 i).l.length ≤ 10 ∧ (sg fS2 i).l.length ≤ 10 ∧ (sg fS3 i).l.length ≤ 10 ∧ (sg fS4 i).l.length ≤ 10 := by
  match i with
  | 0 => decide
  | 1 => decide
  | i + 2 => exact ⟨Nat.zero_le _, Nat.zero_le _, Nat.zero_le _, Nat.zero_le _, Nat.zero_le _⟩
end Go.Proofs.Ytcgejfmbhpmjfaa
