/- FsPlays: whatever the input, the law answers true and leaves its input as it was. -/
import Derived.SizedLaws
import Derived.Test.YtmkheogjnlmkdaaVRowF2
import Derived.Test.YtmkheogjnlmkdaaVPlayH
set_option linter.unusedSimpArgs false
set_option linter.unusedVariables false
set_option maxRecDepth 20000
namespace Go.Proofs.Ytmkheogjnlmkdaa
open Go Go.V Go.ChangeShapes Go.WideShapes Go.ChangeAt Go.RowKit
-- 10: pith/pithlaw8.FsPlays
-- 4: bool
-- 3: int
-- 73: []pithlaw8.Op
set_option maxRecDepth 100000 in
theorem fsplays_lifted (os : Os) (started : os.Started) (D : Type) (enc : TypeId × Value → D) :
    ReturnsInHanded {} Try.checked os 10 .any (Rows.fsPlaysSpec.pre6 enc Try.prog Try.f10 Rows.fsPlaysRow.domain false) (Rows.fsPlaysSpec.post enc Try.prog Try.f10 false true false false) := by
  refine returnsInHanded_of_change_sized (C := Try.checked) Try.own started (by kernel_rfl) Try.func10
    (ChangeSpec.witness6 (enc := enc) (C := Try.checked) false ⟨#[], #[.int .i64 0, .int .i64 0, .slice none 0 0], []⟩ 8 (by kernel_rfl) (by kernel_rfl) (by kernel_rfl) (by kernel_rfl)) ?_
  intro W base args ds gs before hval0 hW hcnd hsz _
  have hval : ∀ (j : Nat) t v, Try.f10.params[j]? = some t → args[j]? = some v → Value.okWide Try.prog W .any base t v := hval0
  have hW' := hW
  obtain ⟨p, q, hA0, hV, rfl, hfz, hnd⟩ := hW
  have hA : DataW.TrodAll enc Try.prog W 0 (fun _ => true) true Try.f10.params.toList args.toList ds p := hA0
  rw [Try.params10] at hA hval
  obtain ⟨v0, vs0, d0, ds0, p0, q0, hargs, rfl, rfl, h0, r0⟩ := trodAll_cons hA
  obtain ⟨v1, vs1, d1, ds1, p1, q1, rfl, rfl, rfl, h1, r1⟩ := trodAll_cons r0
  obtain ⟨v2, vs2, d2, ds2, p2, q2, rfl, rfl, rfl, h2, r2⟩ := trodAll_cons r1
  obtain ⟨rfl, rfl, rfl⟩ := trodAll_nil r2
  obtain rfl : args = #[v0, v1, v2] := by cases args; simp_all
  obtain ⟨rfl, rfl⟩ := trodVars_none hV
  obtain ⟨i0, rfl, rfl, rfl, _⟩ := open_int Try.underlying3 (hval 0 3 v0 rfl rfl) h0
  obtain ⟨i1, rfl, rfl, rfl, _⟩ := open_int Try.underlying3 (hval 1 3 v1 rfl rfl) h1
  have hw2 : ∀ w ∈ d2.weights Try.prog 73, w ≤ reachBytes := fun w hw => by
    rw [Try.params10] at hsz
    have hsz' : (DataW.weightsEach Try.prog [3, 3, 73] [.lit (.int .i64 i0), .lit (.int .i64 i1), d2]).all (· ≤ reachBytes) = true := hsz
    have := List.all_eq_true.1 hsz' w (by simp [DataW.weightsEach, DataW.weights, hw])
    simpa using this
  obtain ⟨ps2, hp2⟩ := arg_ops (hval 2 73 v2 rfl rfl) h2 hw2
  exact law_calls (F10 i0 i1 v2 ps2 W.heap hp2) fun W' hb => law_post Try.laidOut (by kernel_rfl) rfl (by kernel_rfl) Try.underlying4 ⟨rfl, rfl, rfl⟩ hW' hb
theorem fsplays_said : Rows.FsPlaysSaid :=
  OpenClaim.holds_of_wide 10 Try.f10 rfl rfl rfl rfl rfl rfl rfl ⟨rfl, rfl, rfl, rfl, rfl⟩ rfl rfl rfl rfl rfl (by kernel_rfl) Try.func10 (by kernel_rfl)
    (of_decide_eq_true (by kernel_rfl)) (by unfold Func.isWrapper; first | (rw [if_pos (by decide +kernel)]; kernel_rfl) | (rw [if_neg (by decide +kernel)]; exact ⟨rfl, rfl⟩))
    (fun os started D enc _ => fsplays_lifted os started D enc)
end Go.Proofs.Ytmkheogjnlmkdaa
