/- The Files rows: arguments opened, the table of sums, bounds. -/
import Derived.Test.YtgpoldjpmcoppaaDoorVCard
import Derived.Test.YtgpoldjpmcoppaaDoorVCrc
import Derived.Test.YtgpoldjpmcoppaaDoorCards
import Derived.Test.YtgpoldjpmcoppaaDoorTie
import Derived.Stop.LaidErr
import Derived.MakeChecks
import Derived.LaidMore
set_option linter.unusedSimpArgs false
set_option linter.unusedVariables false
set_option maxRecDepth 20000
namespace Go.Proofs.YtgpoldjpmcoppaaDoor
open Go Go.V Go.ChangeShapes Go.WideShapes Go.ChangeAt Go.RowKit
-- 5: uint8
-- 46: uint32
-- 22: []uint8
-- 23: [][]uint8
-- 145: [16]uint32
theorem own : ownKnob Tryd.prog.godebug = none := by kernel_rfl
theorem laidOut : laidOutB Tryd.prog = true := by kernel_rfl
theorem gTab : Tryd.prog.globalNamed "pith/crc.table" = some 0 := by kernel_rfl
theorem gTabType : (Tryd.prog.globals[0]?).map (·.type) = some 145 := by kernel_rfl
theorem cellsTab : Tryd.prog.cellsOf 145 = 16 := by kernel_rfl
theorem cellsU32 : Tryd.prog.cellsOf 46 = 1 := by kernel_rfl
theorem cellsU8 : Tryd.prog.cellsOf 5 = 1 := by kernel_rfl
theorem cellsBs : Tryd.prog.cellsOf 22 = 1 := by kernel_rfl
def crcTab9 : List Int := (List.range 16).map fun i => wI (tabW i)
/-- What the rows' list gives: the table of sums. -/
theorem tab_of {W : World} (h : laidMetH Tryd.prog Rows.filesBackRow.laid W) : CrcTab W.heap := by
  rw [MakeChecks.laidMetH_plain _ _ _ (by kernel_rfl)] at h
  have h4 : Lib.TabIs Tryd.prog W "pith/crc.table" .u32 crcTab9 := Lib.tabIs_of_head (rest := []) gTab gTabType Tryd.underlying145 Tryd.underlying46 cellsU32 cellsTab h
  unfold Lib.TabIs World.var? at h4
  rw [gTab] at h4
  simp only [Option.bind_some] at h4
  split at h4
  · rename_i cs t fr hc
    simp only [Option.some.injEq] at h4
    refine ⟨t, fr, ?_⟩
    rw [hc, h4]
    congr 2
  · cases h4
/-- A world for the witness: the door's own. -/
theorem door_met (os : Os) (args : Array Value) : laidMet Tryd.prog Rows.filesBackRow.laid ((World.doorLaid Tryd.prog 400 os).forCall (fun _ _ => 0) ⟨#[], args, []⟩).memory :=
  laidMet_of_run' 8 (by kernel_rfl) (by kernel_rfl)
/-! ### What the bound gives -/
theorem bulk_one {D : Type} (d : DataW D) : 1 ≤ Rows.uptoBulk d := by
  cases d with
  | lit l => cases l <;> simp [Rows.uptoBulk]
  | nil => simp [Rows.uptoBulk]
  | ptr d => simp [Rows.uptoBulk]
  | slice elems spare => simp [Rows.uptoBulk]
  | agg parts => simp [Rows.uptoBulk]
  | iface t d => simp [Rows.uptoBulk]
  | map entries => simp [Rows.uptoBulk]
  | held h => simp [Rows.uptoBulk]
theorem bulk_part {D : Type} {d : DataW D} {l : List (DataW D)} (h : d ∈ l) : Rows.uptoBulk d ≤ Rows.uptoBulkAll l := by
  induction l with
  | nil => cases h
  | cons x r ih =>
    simp only [Rows.uptoBulkAll]
    cases List.mem_cons.1 h with
    | inl e => subst e; omega
    | inr e => have := ih e; omega
theorem bulk_len {D : Type} (l : List (DataW D)) : l.length ≤ Rows.uptoBulkAll l := by
  induction l with
  | nil => simp [Rows.uptoBulkAll]
  | cons x r ih => have := bulk_one x; simp only [Rows.uptoBulkAll, List.length_cons]; omega
theorem bulk_dlen {D : Type} (d : DataW D) : dlen d ≤ Rows.uptoBulk d := by
  cases d with
  | slice elems spare =>
    have := bulk_len elems
    simp only [dlen, Rows.uptoBulk]
    omega
  | _ => simp [dlen]
theorem bulk_lists {D : Type} {d : DataW D} {xss : List (List Int)} (h : xss = [] ∨ ∃ els rest, d = .slice els rest ∧ els.map dlen = xss.map List.length) : xss.length ≤ Rows.uptoBulk d ∧ ∀ l ∈ xss, l.length ≤ Rows.uptoBulk d := by
  rcases h with rfl | ⟨els, rest, rfl, hm⟩
  · simp
  · have hlen : els.length = xss.length := by simpa using congrArg List.length hm
    have h1 := bulk_len els
    refine ⟨by simp only [Rows.uptoBulk]; omega, fun l hl => ?_⟩
    have : l.length ∈ els.map dlen := by rw [hm]; exact List.mem_map_of_mem hl
    obtain ⟨el, he, hel⟩ := List.mem_map.1 this
    have h2 := bulk_dlen el
    have h3 := bulk_part he
    simp only [Rows.uptoBulk]
    omega
theorem bulk_of {D : Type} {l : List (DataW D)} (hk : Rows.uptoSmall D l = true) {d : DataW D} (h : d ∈ l) : Rows.uptoBulk d ≤ 1048576 :=
  Nat.le_trans (bulk_part h) (of_decide_eq_true hk)

theorem byt_of {xs : List Int} (h : ∀ y ∈ xs, IntR .u8 y) : Byt xs := by
  intro x hx
  have := h x hx
  simp only [IntR, Lit.wf, IntKind.min, IntKind.max, IntKind.signed, IntKind.bits, Bool.and_eq_true, decide_eq_true_eq] at this
  simp at this
  omega
theorem cells_one {v : Value} {t : TypeId} {e : TypeId} {W : World} {base : Nat} (ht : Tryd.prog.underlying t = some (.slice e)) (hv : Value.okWide Tryd.prog W .any base t v) : v.cells.toList = [v] := by
  obtain ⟨a, n, m, rfl⟩ := okWide_slice ht hv
  rfl

theorem i64_rng {x : Int} (h : (Lit.int .i64 x).wf = true) : -9223372036854775808 ≤ x ∧ x < 9223372036854775808 := by
  simp only [Lit.wf, IntKind.min, IntKind.max, IntKind.signed, IntKind.bits, Bool.and_eq_true, decide_eq_true_eq] at h
  simp at h; omega
theorem u32_rng {x : Int} (h : (Lit.int .u32 x).wf = true) : 0 ≤ x ∧ x < 4294967296 := by
  simp only [Lit.wf, IntKind.min, IntKind.max, IntKind.signed, IntKind.bits, Bool.and_eq_true, decide_eq_true_eq] at h
  simp at h; omega
theorem arg_bs {D : Type} {enc : TypeId × Value → D} {W : World} {base : Nat} {sp : Nat → Bool} {held : Bool} {v : Value} {d : DataW D} {qs : List MemPlace} (hv : Value.okWide Tryd.prog W .any base 22 v) (h : DataW.Trod enc Tryd.prog W 0 sp held 22 v d qs) :
    ∃ xs, Ints W.heap 5 .u8 v xs ∧ Byt xs ∧ xs.length ≤ Rows.uptoBulk d := by
  obtain ⟨fuel, hf⟩ := h
  rw [cells_one Tryd.underlying22 hv] at hf
  obtain ⟨v', xs, e, hi, hb, hd⟩ := open_intsl Tryd.underlying22 Tryd.underlying5 cellsU8 hf
  obtain rfl : v = v' := by simpa using e
  exact ⟨xs, hi, byt_of hb, by rw [← hd]; exact bulk_dlen d⟩
theorem arg_bss {D : Type} {enc : TypeId × Value → D} {W : World} {base : Nat} {sp : Nat → Bool} {held : Bool} {v : Value} {d : DataW D} {qs : List MemPlace} (hv : Value.okWide Tryd.prog W .any base 23 v) (h : DataW.Trod enc Tryd.prog W 0 sp held 23 v d qs) :
    ∃ l, Lists W.heap 22 5 v l ∧ (∀ x ∈ l, Byt x) ∧ l.length ≤ Rows.uptoBulk d := by
  obtain ⟨fuel, hf⟩ := h
  rw [cells_one Tryd.underlying23 hv] at hf
  obtain ⟨v', l, e, hi, hb, hd⟩ := open_listsl Tryd.underlying23 cellsBs Tryd.underlying22 cellsU8 Tryd.underlying5 hf
  obtain rfl : v = v' := by simpa using e
  exact ⟨l, hi, fun x hx => byt_of (hb x hx), (bulk_lists hd).1⟩
end Go.Proofs.YtgpoldjpmcoppaaDoor
