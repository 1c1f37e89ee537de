/- Steps among the arguments. -/
import Derived.Test.YtmkheogjnlmkdaaVRowG
import Derived.Test.YtmkheogjnlmkdaaVFlG
set_option linter.unusedSimpArgs false
set_option linter.unusedVariables false
set_option maxRecDepth 20000
namespace Go.Proofs.Ytmkheogjnlmkdaa
open Go Go.V Go.ChangeShapes Go.WideShapes Go.ChangeAt Go.RowKit
-- 3: int
-- 5: uint8
-- 30: pithlaw8.Step
-- 22: []pithlaw8.Step
theorem cellsStep : Try.prog.cellsOf 30 = 5 := by kernel_rfl
theorem arg_steps {D : Type} {enc : TypeId × Value → D} {W : World} {base : Nat} {sp : Nat → Bool} {held : Bool} {v : Value} {d : DataW D} {qs : List MemPlace} (hv : Value.okWide Try.prog W .any base 22 v) (h : DataW.Trod enc Try.prog W 0 sp held 22 v d qs) : ∃ os, Steps W.heap v os ∧ ∀ t ∈ os, 0 ≤ t.fill ∧ t.fill < 256 := by
  obtain ⟨f, hf⟩ := h
  rw [cells_one Try.underlying22 hv] at hf
  obtain ⟨w, es, e, h1, h2⟩ := open_slr stc (fun x => 0 ≤ x.fill ∧ x.fill < 256) (by decide) Try.underlying22 cellsStep stc_len (fun m cs y hy => by
    obtain ⟨xs, n, _, hx, hl, hlen, hfs⟩ := DataW.trod_struct Try.underlying30 hy
    rw [cellsStep] at hl
    obtain ⟨c0, c1, c2, c3, c4, rfl⟩ : ∃ c0 c1 c2 c3 c4, cs = [c0, c1, c2, c3, c4] := by
      match cs, hl with
      | [a, b, c, d, e], _ => exact ⟨a, b, c, d, e, rfl⟩
    have hl5 : xs.length = 5 := hlen
    obtain ⟨y0, y1, y2, y3, y4, rfl⟩ : ∃ y0 y1 y2 y3 y4, xs = [y0, y1, y2, y3, y4] := by
      match xs, hl5 with
      | [a, b, c, d, e], _ => exact ⟨a, b, c, d, e, rfl⟩
    have t0 : DataW.trod enc Try.prog W 0 sp held n 3 (([c0, c1, c2, c3, c4].drop 0).take (Try.prog.cellsOf 3)) = some y0 := hfs 0 _ rfl
    have t1 : DataW.trod enc Try.prog W 0 sp held n 3 (([c0, c1, c2, c3, c4].drop 1).take (Try.prog.cellsOf 3)) = some y1 := hfs 1 _ rfl
    have t2 : DataW.trod enc Try.prog W 0 sp held n 3 (([c0, c1, c2, c3, c4].drop 2).take (Try.prog.cellsOf 3)) = some y2 := hfs 2 _ rfl
    have t3 : DataW.trod enc Try.prog W 0 sp held n 3 (([c0, c1, c2, c3, c4].drop 3).take (Try.prog.cellsOf 3)) = some y3 := hfs 3 _ rfl
    have t4 : DataW.trod enc Try.prog W 0 sp held n 5 (([c0, c1, c2, c3, c4].drop 4).take (Try.prog.cellsOf 5)) = some y4 := hfs 4 _ rfl
    rw [cellsInt] at t0 t1 t2 t3
    rw [cellsU8] at t4
    obtain ⟨p0, h0, _, _⟩ := DataW.trod_int Try.underlying3 t0
    obtain ⟨p1, h1, _, _⟩ := DataW.trod_int Try.underlying3 t1
    obtain ⟨p2, h2, _, _⟩ := DataW.trod_int Try.underlying3 t2
    obtain ⟨p3, h3, _, _⟩ := DataW.trod_int Try.underlying3 t3
    obtain ⟨p4, h4, _, hr⟩ := DataW.trod_int Try.underlying5 t4
    replace h0 : c0 = .int .i64 p0 := by simpa using h0
    replace h1 : c1 = .int .i64 p1 := by simpa using h1
    replace h2 : c2 = .int .i64 p2 := by simpa using h2
    replace h3 : c3 = .int .i64 p3 := by simpa using h3
    replace h4 : c4 = .int .u8 p4 := by simpa using h4
    subst h0 h1 h2 h3 h4
    exact ⟨⟨p0, p1, p2, p3, p4⟩, rfl, u8_rng hr⟩) hf
  obtain rfl : v = w := by simpa using e
  exact ⟨es, h1, h2⟩
end Go.Proofs.Ytmkheogjnlmkdaa
