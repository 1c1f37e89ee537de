/- Pieces among the arguments. -/
import Derived.Test.YtcgejfmbhpmjfaaVRowP
import Derived.Test.YtcgejfmbhpmjfaaVLone
set_option linter.unusedSimpArgs false
set_option linter.unusedVariables false
set_option maxRecDepth 20000
namespace Go.Proofs.Ytcgejfmbhpmjfaa
open Go Go.V Go.ChangeShapes Go.WideShapes Go.ChangeAt Go.RowKit
-- 3: int
-- 65: pithlaw11.Piece
-- 61: []pithlaw11.Piece
theorem cellsPc : Try.prog.cellsOf 65 = 2 := by kernel_rfl
theorem arg_pcs {D : Type} {enc : TypeId × Value → D} {W : World} {base : Nat} {sp : Nat → Bool} {held : Bool} {v : Value} {d : DataW D} {qs : List MemPlace} (hv : Value.okWide Try.prog W .any base 61 v) (h : DataW.Trod enc Try.prog W 0 sp held 61 v d qs) : ∃ ps, Pcs W.heap v ps := by
  obtain ⟨f, hf⟩ := h
  rw [cells_one Try.underlying61 hv] at hf
  obtain ⟨w, es, e, h1, h2⟩ := open_slk (α := Pr) (fun p => [.int .i64 p.1, .int .i64 p.2]) (fun _ => True) (by decide) Try.underlying61 cellsPc (fun _ => rfl) (fun m cs y hy => by
    obtain ⟨xs, n, _, hx, hl, hlen, hfs⟩ := DataW.trod_struct Try.underlying65 hy
    rw [cellsPc] at hl
    obtain ⟨c0, c1, rfl⟩ : ∃ c0 c1, cs = [c0, c1] := by
      match cs, hl with
      | [a, b], _ => exact ⟨a, b, rfl⟩
    have hl2 : xs.length = 2 := hlen
    obtain ⟨y0, y1, rfl⟩ : ∃ y0 y1, xs = [y0, y1] := by
      match xs, hl2 with
      | [a, b], _ => exact ⟨a, b, rfl⟩
    have t0 : DataW.trod enc Try.prog W 0 sp held n 3 (([c0, c1].drop 0).take (Try.prog.cellsOf 3)) = some y0 := hfs 0 _ rfl
    have t1 : DataW.trod enc Try.prog W 0 sp held n 3 (([c0, c1].drop 1).take (Try.prog.cellsOf 3)) = some y1 := hfs 1 _ rfl
    rw [cellsInt] at t0 t1
    obtain ⟨p, h0, _, _⟩ := DataW.trod_int Try.underlying3 t0
    obtain ⟨q, h1, _, _⟩ := DataW.trod_int Try.underlying3 t1
    replace h0 : c0 = .int .i64 p := by simpa using h0
    replace h1 : c1 = .int .i64 q := by simpa using h1
    subst h0 h1
    exact ⟨(p, q), rfl, trivial⟩) hf
  obtain rfl : v = w := by simpa using e
  exact ⟨es, h1⟩
end Go.Proofs.Ytcgejfmbhpmjfaa
