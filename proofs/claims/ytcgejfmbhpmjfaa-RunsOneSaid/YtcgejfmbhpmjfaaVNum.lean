/- The numbers that a reader reads, one behind the other; what was put is read back. -/
import Derived.Test.YtcgejfmbhpmjfaaVPlain
set_option linter.unusedSimpArgs false
set_option linter.unusedVariables false
set_option maxRecDepth 20000
namespace Go.Proofs.Ytcgejfmbhpmjfaa
open Go Go.V
/-- The first k numbers. -/
def rdN (xs : List Int) : Nat → List Int × (Nat × Int)
  | 0 => ([], (0, 0))
  | k + 1 => ((rdN xs k).1 ++ [rval xs (rdN xs k).2], rstep xs (rdN xs k).2)
theorem rdN_len (xs : List Int) : ∀ k, (rdN xs k).1.length = k
  | 0 => rfl
  | k + 1 => by simp [rdN, rdN_len xs k]
/-- What was put is read back. -/
theorem rdN_put (xs : List Int) (hx : ∀ x ∈ xs, 0 ≤ x ∧ x < 9223372036854775808) : ∀ k, k ≤ xs.length → rdN (xs.flatMap vput) k = (xs.take k, (((xs.take k).flatMap vput).length, 0))
  | 0, _ => by simp [rdN]
  | k + 1, h => by
    have ih := rdN_put xs hx k (by omega)
    have hk : k < xs.length := by omega
    have hxk := hx _ (mem_getD (xs := xs) hk 0)
    have hsplit : xs.flatMap vput = (xs.take k).flatMap vput ++ (vput (xs.getD k 0) ++ (xs.drop (k + 1)).flatMap vput) := by
      conv => lhs; rw [← List.take_append_drop k xs]
      rw [List.flatMap_append]
      congr 1
      rw [List.drop_eq_getElem_cons hk, List.flatMap_cons]
      congr 2
      simp [List.getD_eq_getElem?_getD, List.getElem?_eq_getElem hk]
    have hdrop : (xs.flatMap vput).drop ((xs.take k).flatMap vput).length = vput (xs.getD k 0) ++ (xs.drop (k + 1)).flatMap vput := by
      rw [hsplit, List.drop_left]
    have hv := vform_vput hxk.1 hxk.2 ((xs.drop (k + 1)).flatMap vput)
    simp only [rdN, ih, rstep, rval, if_true, hdrop, hv]
    rw [take_succ_getD hk 0]
    simp

theorem rdN_get (xs : List Int) (hx : ∀ x ∈ xs, 0 ≤ x ∧ x < 9223372036854775808) {k : Nat} (h : k < xs.length) : (rdN (xs.flatMap vput) k).2.2 = 0 ∧ rval (xs.flatMap vput) (rdN (xs.flatMap vput) k).2 = xs.getD k 0 := by
  have h0 := rdN_put xs hx k (by omega)
  have h1 := rdN_put xs hx (k + 1) (by omega)
  refine ⟨by rw [h0], ?_⟩
  have h2 : (rdN (xs.flatMap vput) (k + 1)).1 = (rdN (xs.flatMap vput) k).1 ++ [rval (xs.flatMap vput) (rdN (xs.flatMap vput) k).2] := rfl
  have h3 : (rdN (xs.flatMap vput) k).1 = xs.take k := by rw [h0]
  have h4 : (rdN (xs.flatMap vput) (k + 1)).1 = xs.take (k + 1) := by rw [h1]
  rw [h4, h3, take_succ_getD h 0] at h2
  have h5 := List.append_cancel_left h2
  exact (List.cons.inj h5).1.symm
end Go.Proofs.Ytcgejfmbhpmjfaa
