/- An argument that is a slice of ints, opened. -/
import Derived.Test.YtgpoldjpmcoppaaDoorVCd9
set_option linter.unusedSimpArgs false
set_option linter.unusedVariables false
set_option maxRecDepth 20000
namespace Go.Proofs.YtgpoldjpmcoppaaDoor
open Go Go.V Go.ChangeShapes Go.WideShapes Go.ChangeAt Go.RowKit
-- 3: int
-- 73: []int
theorem cellsInt : Tryd.prog.cellsOf 3 = 1 := by kernel_rfl
theorem arg_is {D : Type} {enc : TypeId × Value → D} {W : World} {base : Nat} {sp : Nat → Bool} {held : Bool} {v : Value} {d : DataW D} {qs : List MemPlace} (hv : Value.okWide Tryd.prog W .any base 73 v) (h : DataW.Trod enc Tryd.prog W 0 sp held 73 v d qs) :
    ∃ xs, Ints W.heap 3 .i64 v xs ∧ xs.length ≤ Rows.uptoBulk d := by
  obtain ⟨fuel, hf⟩ := h
  rw [cells_one Tryd.underlying73 hv] at hf
  obtain ⟨v', xs, e, hi, hb, hd⟩ := open_intsl Tryd.underlying73 Tryd.underlying3 cellsInt hf
  obtain rfl : v = v' := by simpa using e
  exact ⟨xs, hi, by rw [← hd]; exact bulk_dlen d⟩
end Go.Proofs.YtgpoldjpmcoppaaDoor
