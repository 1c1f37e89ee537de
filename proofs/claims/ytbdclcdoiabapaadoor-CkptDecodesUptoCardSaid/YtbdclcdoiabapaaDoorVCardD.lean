/- The second card of CkptDecodes: wherever the arguments hold together at most 1048576 values and letters, the law answers true and leaves its input as it was; the three listed tables hold what the program text lays. -/
import Derived.Test.YtbdclcdoiabapaaDoorVDecL
import Derived.Test.YtbdclcdoiabapaaDoorVCardC
set_option linter.unusedSimpArgs false
set_option linter.unusedVariables false
namespace Go.Proofs.YtbdclcdoiabapaaDoor
open Go Go.V Go.ChangeShapes Go.WideShapes Go.ChangeAt Go.RowKit
-- 5: pith/pithlaw18.CkptDecodes
-- 3: int
-- 4: bool
-- 5: uint8
-- 30: []uint8
-- 31: [][]uint8

theorem decl_contract (D : Type) (enc : TypeId × Value → D) (W : World) (base : Nat) (args : Array Value) (ds gs : List (DataW D)) (before : List MemPlace)
    (hval : ∀ (j : Nat) t v, Tryd.f5.params[j]? = some t → args[j]? = some v → Value.okWide Tryd.prog W .any base t v)
    (hW : DataW.Whole enc Tryd.prog Tryd.f5.params.toList Rows.ckptDecodesSpec.vars false W args.toList ds gs before) (hL : laidMetH Tryd.prog Rows.ckptNamesRow.laid W) (hk : Rows.uptoSmall D (ds ++ gs) = true) :
    Calls Tryd.prog 5 args W fun e W' => ∃ v, e = .returned v ∧ Rows.ckptDecodesSpec.post enc Tryd.prog Tryd.f5 false true false false W args v W' := by
  have hW' := hW
  obtain ⟨p, q, hA0, hV, rfl, hfz, hnd⟩ := hW
  have hA : DataW.TrodAll enc Tryd.prog W 0 (fun _ => true) true Tryd.f5.params.toList args.toList ds p := hA0
  rw [Tryd.params5] at hA hval
  obtain ⟨v0, vs0, d0, ds0, p0, q0, hargs, rfl, rfl, h0, r0⟩ := trodAll_cons hA
  obtain ⟨v3, vs3, d3, ds3, p3, q3, rfl, rfl, rfl, h3, r3⟩ := trodAll_cons r0
  obtain ⟨v4, vs4, d4, ds4, p4, q4, rfl, rfl, rfl, h4, r4⟩ := trodAll_cons r3
  obtain ⟨rfl, rfl, rfl⟩ := trodAll_nil r4
  obtain rfl : args = #[v0, v3, v4] := by cases args; simp_all
  obtain ⟨rfl, rfl⟩ := trodVars_none hV
  obtain ⟨n, rfl, rfl, rfl, hw⟩ := open_int Tryd.underlying3 (hval 0 3 v0 rfl rfl) h0
  obtain ⟨fuel3, hf3⟩ := h3
  rw [cells_one Tryd.underlying30 (hval 1 30 v3 rfl rfl)] at hf3
  obtain ⟨v3', head, e3, hi3, hb3, hd3⟩ := open_intsl Tryd.underlying30 Tryd.underlying5 cellsU8 hf3
  obtain rfl : v3 = v3' := by simpa using e3
  obtain ⟨fuel4, hf4⟩ := h4
  rw [cells_one Tryd.underlying31 (hval 2 31 v4 rfl rfl)] at hf4
  obtain ⟨v4', data, e4, hi4, hb4, hd4⟩ := open_listsl Tryd.underlying31 cellsBs Tryd.underlying30 cellsU8 Tryd.underlying5 hf4
  obtain rfl : v4 = v4' := by simpa using e4
  obtain ⟨b1, b2⟩ := bulk_lists hd4
  have hb := bulk_of hk (d := d4) (by simp)
  exact law_calls (F5 n v3 v4 head data W.heap hi3 (byt_of hb3) hi4 (fun y hy => byt_of (hb4 y hy)) (Nat.le_trans b1 hb) (fun l hl => Nat.le_trans (b2 l hl) hb) (tab_of hL)) fun W' hb => law_post laidOut (by kernel_rfl) rfl (by kernel_rfl) Tryd.underlying4 ⟨rfl, rfl, rfl⟩ hW' hb

set_option maxRecDepth 100000 in
theorem decl_lifted (os : Os) (started : os.Started) (D : Type) (enc : TypeId × Value → D) (F : Stop.Interp) :
    ReturnsInHanded {} Tryd.checked os 5 .any ((Rows.OpenSpec.upto Rows.ckptDecodesSpec).preRow enc Tryd.prog Tryd.f5 Rows.ckptDecodesUptoRow.domain false Rows.ckptDecodesUptoRow.laid) (((Rows.OpenSpec.upto Rows.ckptDecodesSpec).at F).post enc Tryd.prog Tryd.f5 false true false false) := by
  refine returnsInHanded_of_row (C := Tryd.checked) (s := Rows.OpenSpec.upto Rows.ckptDecodesSpec) own started (by kernel_rfl) Tryd.func5
    (witness_row_at (enc := enc) (C := Tryd.checked) false (World.doorLaid Tryd.prog 400 os) #[.int .i64 0, .slice none 0 0, .slice none 0 0] rfl (by kernel_rfl) (by kernel_rfl) (by kernel_rfl)
      (OpenSpec.preRow_of_cond (x := ([.lit (.int .i64 0), .nil, .nil], [], [])) 8 (by kernel_rfl) (by kernel_rfl) (fun k hk => by cases hk; kernel_rfl) (by kernel_rfl) (door_met os _))) ?_
  intro W base args ds gs before hval hW _ hcond _ hL _ _
  exact decl_contract D enc W base args ds gs before hval hW hL (hcond _ rfl)

theorem decl_said : Rows.CkptDecodesUptoSaid :=
  OpenClaim.holds_of_cond 5 Tryd.f5 rfl rfl rfl rfl rfl rfl rfl ⟨rfl, rfl, rfl, rfl, rfl⟩ rfl rfl rfl rfl rfl (by kernel_rfl) Tryd.func5 (by kernel_rfl)
    (of_decide_eq_true (by kernel_rfl)) (by unfold Func.isWrapper; first | (rw [if_pos (by decide +kernel)]; kernel_rfl) | (rw [if_neg (by decide +kernel)]; exact ⟨rfl, rfl⟩))
    (fun os started D enc _ F => by rw [OpenClaim.pre_eq_preRow]; exact decl_lifted os started D enc F)

theorem decl_plain (f : FuncId) (fn : Func) (hf : Tryd.pinned.checked.prog.funcNamed "pith/pithlaw18.CkptDecodes" = some f) (hfn : Tryd.pinned.checked.prog.funcs[f]? = some fn) :
    false = Tryd.pinned.checked.prog.looks [] ∧ ∀ (j : Nat) t, fn.params[j]? = some t → Tryd.pinned.checked.prog.wantsStandIn t = false := by
  obtain rfl : f = 5 := Option.some.inj ((show Tryd.prog.funcNamed "pith/pithlaw18.CkptDecodes" = some 5 by kernel_rfl).symm.trans hf) |>.symm
  obtain rfl : fn = Tryd.f5 := (Option.some.inj (Tryd.func5.symm.trans hfn)).symm
  refine ⟨by kernel_rfl, fun j t ht => ?_⟩
  rw [Tryd.params5] at ht
  have hm : t ∈ [3, 30, 31] := by simpa using Array.mem_of_getElem? ht
  have hall : ([3, 30, 31].all fun u => !Tryd.prog.wantsStandIn u) = true := by kernel_rfl
  exact (show Tryd.prog.wantsStandIn t = false by simpa using List.all_eq_true.1 hall t hm)

theorem decl_card : Rows.CkptDecodesUptoCardSaid :=
  Claim7.holds_tied_plain_at .later [] _ _ _ _ decl_said (fun _ h => by cases h) (by kernel_rfl) (fun _ h => by cases h) ckptDecodesUpto_row_tie rfl ⟨rfl, rfl⟩ (by kernel_rfl) rfl decl_plain (by kernel_rfl)
end Go.Proofs.YtbdclcdoiabapaaDoor
