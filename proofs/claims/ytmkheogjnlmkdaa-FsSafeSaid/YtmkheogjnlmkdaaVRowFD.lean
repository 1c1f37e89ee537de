/- FsSafe: whatever the input, the law answers true and leaves its input as it was. -/
import Derived.Test.YtmkheogjnlmkdaaVRowF1
import Derived.Test.YtmkheogjnlmkdaaVFlX
set_option linter.unusedSimpArgs false
set_option linter.unusedVariables false
set_option maxRecDepth 20000
namespace Go.Proofs.Ytmkheogjnlmkdaa
open Go Go.V Go.ChangeShapes Go.WideShapes Go.ChangeAt Go.RowKit
-- 7: pith/pithlaw8.FsSafe
-- 4: bool
-- 3: int
-- 62: []int
-- 22: []pithlaw8.Step
set_option maxRecDepth 100000 in
theorem fssafe_lifted (os : Os) (started : os.Started) (D : Type) (enc : TypeId × Value → D) :
    ReturnsInHanded {} Try.checked os 7 .any (Rows.fsSafeSpec.pre6 enc Try.prog Try.f7 Rows.fsSafeRow.domain false) (Rows.fsSafeSpec.post enc Try.prog Try.f7 false true false false) := by
  refine returnsInHanded_of_change (C := Try.checked) Try.own started (by kernel_rfl) Try.func7
    (ChangeSpec.witness6 (enc := enc) (C := Try.checked) false ⟨#[], #[.slice none 0 0, .slice none 0 0, .int .i64 0, .int .i64 0, .slice none 0 0], []⟩ 8 (by kernel_rfl) (by kernel_rfl) (by kernel_rfl) (by kernel_rfl)) ?_
  intro W base args ds gs before hval0 hW hcnd _
  have hval : ∀ (j : Nat) t v, Try.f7.params[j]? = some t → args[j]? = some v → Value.okWide Try.prog W .any base t v := hval0
  have hW' := hW
  obtain ⟨p, q, hA0, hV, rfl, hfz, hnd⟩ := hW
  have hA : DataW.TrodAll enc Try.prog W 0 (fun _ => true) true Try.f7.params.toList args.toList ds p := hA0
  rw [Try.params7] at hA hval
  obtain ⟨v0, vs0, d0, ds0, p0, q0, hargs, rfl, rfl, h0, r0⟩ := trodAll_cons hA
  obtain ⟨v1, vs1, d1, ds1, p1, q1, rfl, rfl, rfl, h1, r1⟩ := trodAll_cons r0
  obtain ⟨v2, vs2, d2, ds2, p2, q2, rfl, rfl, rfl, h2, r2⟩ := trodAll_cons r1
  obtain ⟨v3, vs3, d3, ds3, p3, q3, rfl, rfl, rfl, h3, r3⟩ := trodAll_cons r2
  obtain ⟨v4, vs4, d4, ds4, p4, q4, rfl, rfl, rfl, h4, r4⟩ := trodAll_cons r3
  obtain ⟨rfl, rfl, rfl⟩ := trodAll_nil r4
  obtain rfl : args = #[v0, v1, v2, v3, v4] := by cases args; simp_all
  obtain ⟨rfl, rfl⟩ := trodVars_none hV
  obtain ⟨ps0, hp0, hq0⟩ := arg_steps (hval 0 22 v0 rfl rfl) h0
  obtain ⟨ps1, hp1, hq1⟩ := arg_steps (hval 1 22 v1 rfl rfl) h1
  obtain ⟨i2, rfl, rfl, rfl, hr2⟩ := open_int Try.underlying3 (hval 2 3 v2 rfl rfl) h2
  obtain ⟨i3, rfl, rfl, rfl, hr3⟩ := open_int Try.underlying3 (hval 3 3 v3 rfl rfl) h3
  obtain ⟨ps4, hp4, hq4⟩ := arg_is (hval 4 62 v4 rfl rfl) h4
  exact law_calls (F7 v0 ps0 v1 ps1 i2 i3 v4 ps4 W.heap hp0 hq0 hp1 hq1 hr2 hr3 hp4 hq4) fun W' hb => law_post Try.laidOut (by kernel_rfl) rfl (by kernel_rfl) Try.underlying4 ⟨rfl, rfl, rfl⟩ hW' hb
theorem fssafe_said : Rows.FsSafeSaid :=
  OpenClaim.holds_of_wide 7 Try.f7 rfl rfl rfl rfl rfl rfl rfl ⟨rfl, rfl, rfl, rfl, rfl⟩ rfl rfl rfl rfl rfl (by kernel_rfl) Try.func7 (by kernel_rfl)
    (of_decide_eq_true (by kernel_rfl)) (by unfold Func.isWrapper; first | (rw [if_pos (by decide +kernel)]; kernel_rfl) | (rw [if_neg (by decide +kernel)]; exact ⟨rfl, rfl⟩))
    (fun os started D enc _ => fssafe_lifted os started D enc)
end Go.Proofs.Ytmkheogjnlmkdaa
