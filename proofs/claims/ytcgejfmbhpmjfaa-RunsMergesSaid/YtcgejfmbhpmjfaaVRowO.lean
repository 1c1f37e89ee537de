/- Operations among the arguments. -/
import Derived.Test.YtcgejfmbhpmjfaaVRow2
import Derived.Test.YtcgejfmbhpmjfaaVLmerg
set_option linter.unusedSimpArgs false
set_option linter.unusedVariables false
set_option maxRecDepth 20000
namespace Go.Proofs.Ytcgejfmbhpmjfaa
open Go Go.V Go.ChangeShapes Go.WideShapes Go.ChangeAt Go.RowKit
-- 3: int
-- 4: bool
-- 24: pith/api.Pair
-- 22: []api.Pair
-- 51: pithlaw11.Op
-- 45: []pithlaw11.Op
theorem cellsBool : Try.prog.cellsOf 4 = 1 := by kernel_rfl
theorem cellsOp : Try.prog.cellsOf 51 = 5 := by kernel_rfl
theorem arg_ops {D : Type} {enc : TypeId × Value → D} {W : World} {base : Nat} {sp : Nat → Bool} {held : Bool} {v : Value} {d : DataW D} {qs : List MemPlace} (hv : Value.okWide Try.prog W .any base 45 v) (h : DataW.Trod enc Try.prog W 0 sp held 45 v d qs) : ∃ os, Ops W.heap v os := by
  obtain ⟨f, hf⟩ := h
  rw [cells_one Try.underlying45 hv] at hf
  obtain ⟨w, es, e, h1, h2⟩ := open_slk opc (fun x => Prs W.heap x.v x.l) (by decide) Try.underlying45 cellsOp opc_len (fun m cs y hy => by
    obtain ⟨xs, n, _, hx, hl, hlen, hfs⟩ := DataW.trod_struct Try.underlying51 hy
    rw [cellsOp] at hl
    obtain ⟨c0, c1, c2, c3, c4, rfl⟩ : ∃ c0 c1 c2 c3 c4, cs = [c0, c1, c2, c3, c4] := by
      match cs, hl with
      | [a, b, c, d, e], _ => exact ⟨a, b, c, d, e, rfl⟩
    have hl5 : xs.length = 5 := hlen
    obtain ⟨y0, y1, y2, y3, y4, rfl⟩ : ∃ y0 y1 y2 y3 y4, xs = [y0, y1, y2, y3, y4] := by
      match xs, hl5 with
      | [a, b, c, d, e], _ => exact ⟨a, b, c, d, e, rfl⟩
    have t0 : DataW.trod enc Try.prog W 0 sp held n 3 (([c0, c1, c2, c3, c4].drop 0).take (Try.prog.cellsOf 3)) = some y0 := hfs 0 _ rfl
    have t1 : DataW.trod enc Try.prog W 0 sp held n 3 (([c0, c1, c2, c3, c4].drop 1).take (Try.prog.cellsOf 3)) = some y1 := hfs 1 _ rfl
    have t2 : DataW.trod enc Try.prog W 0 sp held n 22 (([c0, c1, c2, c3, c4].drop 2).take (Try.prog.cellsOf 22)) = some y2 := hfs 2 _ rfl
    have t3 : DataW.trod enc Try.prog W 0 sp held n 4 (([c0, c1, c2, c3, c4].drop 3).take (Try.prog.cellsOf 4)) = some y3 := hfs 3 _ rfl
    have t4 : DataW.trod enc Try.prog W 0 sp held n 4 (([c0, c1, c2, c3, c4].drop 4).take (Try.prog.cellsOf 4)) = some y4 := hfs 4 _ rfl
    rw [cellsInt] at t0 t1
    rw [cellsPrs] at t2
    rw [cellsBool] at t3 t4
    obtain ⟨p, h0, _, _⟩ := DataW.trod_int Try.underlying3 t0
    obtain ⟨q, h1, _, _⟩ := DataW.trod_int Try.underlying3 t1
    obtain ⟨w, ps, h2, hp, _⟩ := open_prs t2
    obtain ⟨b, h3, _⟩ := trod_bool Try.underlying4 t3
    obtain ⟨b', h4, _⟩ := trod_bool Try.underlying4 t4
    replace h0 : c0 = .int .i64 p := by simpa using h0
    replace h1 : c1 = .int .i64 q := by simpa using h1
    replace h2 : c2 = w := by simpa using h2
    replace h3 : c3 = .bool b := by simpa using h3
    replace h4 : c4 = .bool b' := by simpa using h4
    subst h0 h1 h2 h3 h4
    exact ⟨⟨p, q, c2, ps, b, b'⟩, rfl, hp⟩) hf
  obtain rfl : v = w := by simpa using e
  exact ⟨es, h1, h2⟩
end Go.Proofs.Ytcgejfmbhpmjfaa
