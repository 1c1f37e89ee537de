/- The second card of FilesBeside: wherever the arguments hold together at most 1048576 values and letters, the law answers true and leaves its input as it was; the listed table holds what the program text lays. -/
import Derived.Test.YtgpoldjpmcoppaaDoorVCd9
import Derived.Test.YtgpoldjpmcoppaaDoorVLbe9
set_option linter.unusedSimpArgs false
set_option linter.unusedVariables false
set_option maxRecDepth 20000
namespace Go.Proofs.YtgpoldjpmcoppaaDoor
open Go Go.V Go.ChangeShapes Go.WideShapes Go.ChangeAt Go.RowKit
-- 5: pith/pithlaw9.FilesBeside
-- 4: bool
-- 23: [][]uint8
theorem filesbeside_contract (D : Type) (enc : TypeId × Value → D) (W : World) (base : Nat) (args : Array Value) (ds gs : List (DataW D)) (before : List MemPlace)
    (hval : ∀ (j : Nat) t v, Tryd.f5.params[j]? = some t → args[j]? = some v → Value.okWide Tryd.prog W .any base t v)
    (hW : DataW.Whole enc Tryd.prog Tryd.f5.params.toList Rows.filesBesideSpec.vars false W args.toList ds gs before) (hL : laidMetH Tryd.prog Rows.filesBackRow.laid W) (hk : Rows.uptoSmall D (ds ++ gs) = true) :
    Calls Tryd.prog 5 args W fun e W' => ∃ v, e = .returned v ∧ Rows.filesBesideSpec.post enc Tryd.prog Tryd.f5 false true false false W args v W' := by
  have hW' := hW
  obtain ⟨p, q, hA0, hV, rfl, hfz, hnd⟩ := hW
  have hA : DataW.TrodAll enc Tryd.prog W 0 (fun _ => true) true Tryd.f5.params.toList args.toList ds p := hA0
  rw [Tryd.params5] at hA hval
  obtain ⟨v0, vs0, d0, ds0, p0, q0, hargs, rfl, rfl, h0, r0⟩ := trodAll_cons hA
  obtain ⟨v1, vs1, d1, ds1, p1, q1, rfl, rfl, rfl, h1, r1⟩ := trodAll_cons r0
  obtain ⟨rfl, rfl, rfl⟩ := trodAll_nil r1
  obtain rfl : args = #[v0, v1] := by cases args; simp_all
  obtain ⟨rfl, rfl⟩ := trodVars_none hV
  obtain ⟨x0, hp0, hb0, hl0⟩ := arg_bss (hval 0 23 v0 rfl rfl) h0
  obtain ⟨x1, hp1, hb1, hl1⟩ := arg_bss (hval 1 23 v1 rfl rfl) h1
  exact law_calls (F5 v0 x0 v1 x1 W.heap hp0 hb0 hp1 hb1 (tab_of hL) (Nat.le_trans hl0 (bulk_of hk (d := d0) (by simp))) (Nat.le_trans hl1 (bulk_of hk (d := d1) (by simp)))) fun W' hb => law_post laidOut (by kernel_rfl) rfl (by kernel_rfl) Tryd.underlying4 ⟨rfl, rfl, rfl⟩ hW' hb
set_option maxRecDepth 100000 in
theorem filesbeside_lifted (os : Os) (started : os.Started) (D : Type) (enc : TypeId × Value → D) (F : Stop.Interp) :
    ReturnsInHanded {} Tryd.checked os 5 .any ((Rows.OpenSpec.upto Rows.filesBesideSpec).preRow enc Tryd.prog Tryd.f5 Rows.filesBesideUptoRow.domain false Rows.filesBesideUptoRow.laid) (((Rows.OpenSpec.upto Rows.filesBesideSpec).at F).post enc Tryd.prog Tryd.f5 false true false false) := by
  refine returnsInHanded_of_row (C := Tryd.checked) (s := Rows.OpenSpec.upto Rows.filesBesideSpec) own started (by kernel_rfl) Tryd.func5
    (witness_row_at (enc := enc) (C := Tryd.checked) false (World.doorLaid Tryd.prog 400 os) #[.slice none 0 0, .slice none 0 0] rfl (by kernel_rfl) (by kernel_rfl) (by kernel_rfl)
      (OpenSpec.preRow_of_cond (x := ([.nil, .nil], [], [])) 8 (by kernel_rfl) (by kernel_rfl) (fun k hk => by cases hk; kernel_rfl) (by kernel_rfl) (door_met os _))) ?_
  intro W base args ds gs before hval hW _ hcond _ hL _ _
  exact filesbeside_contract D enc W base args ds gs before hval hW hL (hcond _ rfl)
theorem filesbeside_said : Rows.FilesBesideUptoSaid :=
  OpenClaim.holds_of_cond 5 Tryd.f5 rfl rfl rfl rfl rfl rfl rfl ⟨rfl, rfl, rfl, rfl, rfl⟩ rfl rfl rfl rfl rfl (by kernel_rfl) Tryd.func5 (by kernel_rfl)
    (of_decide_eq_true (by kernel_rfl)) (by unfold Func.isWrapper; first | (rw [if_pos (by decide +kernel)]; kernel_rfl) | (rw [if_neg (by decide +kernel)]; exact ⟨rfl, rfl⟩))
    (fun os started D enc _ F => by rw [OpenClaim.pre_eq_preRow]; exact filesbeside_lifted os started D enc F)
theorem filesbeside_plain (f : FuncId) (fn : Func) (hf : Tryd.pinned.checked.prog.funcNamed "pith/pithlaw9.FilesBeside" = some f) (hfn : Tryd.pinned.checked.prog.funcs[f]? = some fn) :
    true = Tryd.pinned.checked.prog.looks [] ∧ ∀ (j : Nat) t, fn.params[j]? = some t → Tryd.pinned.checked.prog.wantsStandIn t = false := by
  obtain rfl : f = 5 := Option.some.inj ((show Tryd.prog.funcNamed "pith/pithlaw9.FilesBeside" = some 5 by kernel_rfl).symm.trans hf) |>.symm
  obtain rfl : fn = Tryd.f5 := (Option.some.inj (Tryd.func5.symm.trans hfn)).symm
  refine ⟨by kernel_rfl, fun j t ht => ?_⟩
  rw [Tryd.params5] at ht
  have hm : t ∈ [23, 23] := by simpa using Array.mem_of_getElem? ht
  have hall : ([23, 23].all fun u => !Tryd.prog.wantsStandIn u) = true := by kernel_rfl
  exact (show Tryd.prog.wantsStandIn t = false by simpa using List.all_eq_true.1 hall t hm)
theorem filesbeside_card : Rows.FilesBesideUptoCardSaid :=
  Claim7.holds_tied_plain_at .later [] _ _ _ _ filesbeside_said (fun _ h => by cases h) (by kernel_rfl) (fun _ h => by cases h) filesBesideUpto_row_tie rfl ⟨rfl, rfl⟩ (by kernel_rfl) rfl filesbeside_plain (by kernel_rfl)
end Go.Proofs.YtgpoldjpmcoppaaDoor
