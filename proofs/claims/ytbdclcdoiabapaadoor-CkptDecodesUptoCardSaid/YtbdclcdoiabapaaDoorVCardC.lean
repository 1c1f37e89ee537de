/- The second card of CkptBack: wherever the arguments hold together at most 1048576 values and letters, the law answers true and leaves its input as it was; the three listed tables hold what the program text lays. -/
import Derived.Test.YtbdclcdoiabapaaDoorVBack
import Derived.Test.YtbdclcdoiabapaaDoorVCardB
set_option linter.unusedSimpArgs false
set_option linter.unusedVariables false
namespace Go.Proofs.YtbdclcdoiabapaaDoor
open Go Go.V Go.ChangeShapes Go.WideShapes Go.ChangeAt Go.RowKit
-- 6: pith/pithlaw18.CkptBack
-- 3: int
-- 4: bool
-- 28: pith/api.Check
-- 5: uint8
-- 30: []uint8
-- 31: [][]uint8

/-! ### What the bound gives -/
theorem bulk_one {D : Type} (d : DataW D) : 1 ≤ Rows.uptoBulk d := by
  cases d with
  | lit l => cases l <;> simp [Rows.uptoBulk]
  | nil => simp [Rows.uptoBulk]
  | ptr d => simp [Rows.uptoBulk]
  | slice elems spare => simp [Rows.uptoBulk]
  | agg parts => simp [Rows.uptoBulk]
  | iface t d => simp [Rows.uptoBulk]
  | map entries => simp [Rows.uptoBulk]
  | held h => simp [Rows.uptoBulk]
theorem bulk_part {D : Type} {d : DataW D} {l : List (DataW D)} (h : d ∈ l) : Rows.uptoBulk d ≤ Rows.uptoBulkAll l := by
  induction l with
  | nil => cases h
  | cons x r ih =>
    simp only [Rows.uptoBulkAll]
    cases List.mem_cons.1 h with
    | inl e => subst e; omega
    | inr e => have := ih e; omega
theorem bulk_len {D : Type} (l : List (DataW D)) : l.length ≤ Rows.uptoBulkAll l := by
  induction l with
  | nil => simp [Rows.uptoBulkAll]
  | cons x r ih => have := bulk_one x; simp only [Rows.uptoBulkAll, List.length_cons]; omega
theorem bulk_dlen {D : Type} (d : DataW D) : dlen d ≤ Rows.uptoBulk d := by
  cases d with
  | slice elems spare =>
    have := bulk_len elems
    simp only [dlen, Rows.uptoBulk]
    omega
  | _ => simp [dlen]
theorem bulk_lists {D : Type} {d : DataW D} {xss : List (List Int)} (h : xss = [] ∨ ∃ els rest, d = .slice els rest ∧ els.map dlen = xss.map List.length) : xss.length ≤ Rows.uptoBulk d ∧ ∀ l ∈ xss, l.length ≤ Rows.uptoBulk d := by
  rcases h with rfl | ⟨els, rest, rfl, hm⟩
  · simp
  · have hlen : els.length = xss.length := by simpa using congrArg List.length hm
    have h1 := bulk_len els
    refine ⟨by simp only [Rows.uptoBulk]; omega, fun l hl => ?_⟩
    have : l.length ∈ els.map dlen := by rw [hm]; exact List.mem_map_of_mem hl
    obtain ⟨el, he, hel⟩ := List.mem_map.1 this
    have h2 := bulk_dlen el
    have h3 := bulk_part he
    simp only [Rows.uptoBulk]
    omega
theorem bulk_of {D : Type} {l : List (DataW D)} (hk : Rows.uptoSmall D l = true) {d : DataW D} (h : d ∈ l) : Rows.uptoBulk d ≤ 1048576 :=
  Nat.le_trans (bulk_part h) (of_decide_eq_true hk)

theorem cellsU8 : Tryd.prog.cellsOf 5 = 1 := by kernel_rfl
theorem cellsBs : Tryd.prog.cellsOf 30 = 1 := by kernel_rfl
theorem byt_of {xs : List Int} (h : ∀ y ∈ xs, IntR .u8 y) : Byt xs := by
  intro x hx
  have := h x hx
  simp only [IntR, Lit.wf, IntKind.min, IntKind.max, IntKind.signed, IntKind.bits, Bool.and_eq_true, decide_eq_true_eq] at this
  simp at this
  omega
theorem cells_one {v : Value} {t : TypeId} {e : TypeId} {W : World} {base : Nat} (ht : Tryd.prog.underlying t = some (.slice e)) (hv : Value.okWide Tryd.prog W .any base t v) : v.cells.toList = [v] := by
  obtain ⟨a, n, m, rfl⟩ := okWide_slice ht hv
  rfl

theorem back_contract (D : Type) (enc : TypeId × Value → D) (W : World) (base : Nat) (args : Array Value) (ds gs : List (DataW D)) (before : List MemPlace)
    (hval : ∀ (j : Nat) t v, Tryd.f6.params[j]? = some t → args[j]? = some v → Value.okWide Tryd.prog W .any base t v)
    (hW : DataW.Whole enc Tryd.prog Tryd.f6.params.toList Rows.ckptBackSpec.vars false W args.toList ds gs before) (hL : laidMetH Tryd.prog Rows.ckptNamesRow.laid W) (hk : Rows.uptoSmall D (ds ++ gs) = true) :
    Calls Tryd.prog 6 args W fun e W' => ∃ v, e = .returned v ∧ Rows.ckptBackSpec.post enc Tryd.prog Tryd.f6 false true false false W args v W' := by
  have hW' := hW
  obtain ⟨p, q, hA0, hV, rfl, hfz, hnd⟩ := hW
  have hA : DataW.TrodAll enc Tryd.prog W 0 (fun _ => true) true Tryd.f6.params.toList args.toList ds p := hA0
  rw [Tryd.params6] at hA hval
  obtain ⟨v0, vs0, d0, ds0, p0, q0, hargs, rfl, rfl, h0, r0⟩ := trodAll_cons hA
  obtain ⟨v1, vs1, d1, ds1, p1, q1, rfl, rfl, rfl, h1, r1⟩ := trodAll_cons r0
  obtain ⟨v2, vs2, d2, ds2, p2, q2, rfl, rfl, rfl, h2, r2⟩ := trodAll_cons r1
  obtain ⟨v3, vs3, d3, ds3, p3, q3, rfl, rfl, rfl, h3, r3⟩ := trodAll_cons r2
  obtain ⟨v4, vs4, d4, ds4, p4, q4, rfl, rfl, rfl, h4, r4⟩ := trodAll_cons r3
  obtain ⟨rfl, rfl, rfl⟩ := trodAll_nil r4
  obtain rfl : args = #[v0, v1, v2, v3, v4] := by cases args; simp_all
  obtain ⟨rfl, rfl⟩ := trodVars_none hV
  obtain ⟨n, rfl, rfl, rfl, hw⟩ := open_int Tryd.underlying3 (hval 0 3 v0 rfl rfl) h0
  obtain ⟨o, rfl, rfl, rfl, hw1⟩ := open_int Tryd.underlying3 (hval 1 3 v1 rfl rfl) h1
  obtain ⟨k, xs, bs, hc, _⟩ := open_chk (hval 2 28 v2 rfl rfl) h2
  obtain ⟨fuel3, hf3⟩ := h3
  rw [cells_one Tryd.underlying30 (hval 3 30 v3 rfl rfl)] at hf3
  obtain ⟨v3', head, e3, hi3, hb3, hd3⟩ := open_intsl Tryd.underlying30 Tryd.underlying5 cellsU8 hf3
  obtain rfl : v3 = v3' := by simpa using e3
  obtain ⟨fuel4, hf4⟩ := h4
  rw [cells_one Tryd.underlying31 (hval 4 31 v4 rfl rfl)] at hf4
  obtain ⟨v4', data, e4, hi4, hb4, hd4⟩ := open_listsl Tryd.underlying31 cellsBs Tryd.underlying30 cellsU8 Tryd.underlying5 hf4
  obtain rfl : v4 = v4' := by simpa using e4
  obtain ⟨b1, b2⟩ := bulk_lists hd4
  have hb := bulk_of hk (d := d4) (by simp)
  exact law_calls (F6 n o k v2 v3 v4 xs bs head data W.heap hc hi3 (byt_of hb3) hi4 (fun y hy => byt_of (hb4 y hy)) (Nat.le_trans b1 hb) (fun l hl => Nat.le_trans (b2 l hl) hb) (tab_of hL)) fun W' hb => law_post laidOut (by kernel_rfl) rfl (by kernel_rfl) Tryd.underlying4 ⟨rfl, rfl, rfl⟩ hW' hb

set_option maxRecDepth 100000 in
theorem back_lifted (os : Os) (started : os.Started) (D : Type) (enc : TypeId × Value → D) (F : Stop.Interp) :
    ReturnsInHanded {} Tryd.checked os 6 .any ((Rows.OpenSpec.upto Rows.ckptBackSpec).preRow enc Tryd.prog Tryd.f6 Rows.ckptBackUptoRow.domain false Rows.ckptBackUptoRow.laid) (((Rows.OpenSpec.upto Rows.ckptBackSpec).at F).post enc Tryd.prog Tryd.f6 false true false false) := by
  refine returnsInHanded_of_row (C := Tryd.checked) (s := Rows.OpenSpec.upto Rows.ckptBackSpec) own started (by kernel_rfl) Tryd.func6
    (witness_row_at (enc := enc) (C := Tryd.checked) false (World.doorLaid Tryd.prog 400 os) #[.int .i64 0, .int .i64 0, .agg #[.int .i64 0, .slice none 0 0, .slice none 0 0], .slice none 0 0, .slice none 0 0] rfl (by kernel_rfl) (by kernel_rfl) (by kernel_rfl)
      (OpenSpec.preRow_of_cond (x := ([.lit (.int .i64 0), .lit (.int .i64 0), .agg [.lit (.int .i64 0), .nil, .nil], .nil, .nil], [], [])) 8 (by kernel_rfl) (by kernel_rfl) (fun k hk => by cases hk; kernel_rfl) (by kernel_rfl) (door_met os _))) ?_
  intro W base args ds gs before hval hW _ hcond _ hL _ _
  exact back_contract D enc W base args ds gs before hval hW hL (hcond _ rfl)

theorem back_said : Rows.CkptBackUptoSaid :=
  OpenClaim.holds_of_cond 6 Tryd.f6 rfl rfl rfl rfl rfl rfl rfl ⟨rfl, rfl, rfl, rfl, rfl⟩ rfl rfl rfl rfl rfl (by kernel_rfl) Tryd.func6 (by kernel_rfl)
    (of_decide_eq_true (by kernel_rfl)) (by unfold Func.isWrapper; first | (rw [if_pos (by decide +kernel)]; kernel_rfl) | (rw [if_neg (by decide +kernel)]; exact ⟨rfl, rfl⟩))
    (fun os started D enc _ F => by rw [OpenClaim.pre_eq_preRow]; exact back_lifted os started D enc F)

theorem back_plain (f : FuncId) (fn : Func) (hf : Tryd.pinned.checked.prog.funcNamed "pith/pithlaw18.CkptBack" = some f) (hfn : Tryd.pinned.checked.prog.funcs[f]? = some fn) :
    false = Tryd.pinned.checked.prog.looks [] ∧ ∀ (j : Nat) t, fn.params[j]? = some t → Tryd.pinned.checked.prog.wantsStandIn t = false := by
  obtain rfl : f = 6 := Option.some.inj ((show Tryd.prog.funcNamed "pith/pithlaw18.CkptBack" = some 6 by kernel_rfl).symm.trans hf) |>.symm
  obtain rfl : fn = Tryd.f6 := (Option.some.inj (Tryd.func6.symm.trans hfn)).symm
  refine ⟨by kernel_rfl, fun j t ht => ?_⟩
  rw [Tryd.params6] at ht
  have hm : t ∈ [3, 3, 28, 30, 31] := by simpa using Array.mem_of_getElem? ht
  have hall : ([3, 3, 28, 30, 31].all fun u => !Tryd.prog.wantsStandIn u) = true := by kernel_rfl
  exact (show Tryd.prog.wantsStandIn t = false by simpa using List.all_eq_true.1 hall t hm)

theorem back_card : Rows.CkptBackUptoCardSaid :=
  Claim7.holds_tied_plain_at .later [] _ _ _ _ back_said (fun _ h => by cases h) (by kernel_rfl) (fun _ h => by cases h) ckptBackUpto_row_tie rfl ⟨rfl, rfl⟩ (by kernel_rfl) rfl back_plain (by kernel_rfl)
end Go.Proofs.YtbdclcdoiabapaaDoor
