/- The second card of FilesWhole: wherever the arguments hold together at most 1048576 values and letters, the law answers true and leaves its input as it was; the listed table holds what the program text lays. -/
import Derived.Test.YtgpoldjpmcoppaaDoorVCd9
import Derived.Test.YtgpoldjpmcoppaaDoorVCdi9
import Derived.Test.YtgpoldjpmcoppaaDoorVLwh9
set_option linter.unusedSimpArgs false
set_option linter.unusedVariables false
set_option maxRecDepth 20000
namespace Go.Proofs.YtgpoldjpmcoppaaDoor
open Go Go.V Go.ChangeShapes Go.WideShapes Go.ChangeAt Go.RowKit
-- 8: pith/pithlaw9.FilesWhole
-- 4: bool
-- 23: [][]uint8
-- 3: int
-- 73: []int
theorem fileswhole_contract (D : Type) (enc : TypeId × Value → D) (W : World) (base : Nat) (args : Array Value) (ds gs : List (DataW D)) (before : List MemPlace)
    (hval : ∀ (j : Nat) t v, Tryd.f8.params[j]? = some t → args[j]? = some v → Value.okWide Tryd.prog W .any base t v)
    (hW : DataW.Whole enc Tryd.prog Tryd.f8.params.toList Rows.filesWholeSpec.vars false W args.toList ds gs before) (hL : laidMetH Tryd.prog Rows.filesBackRow.laid W) (hk : Rows.uptoSmall D (ds ++ gs) = true) :
    Calls Tryd.prog 8 args W fun e W' => ∃ v, e = .returned v ∧ Rows.filesWholeSpec.post enc Tryd.prog Tryd.f8 false true false false W args v W' := by
  have hW' := hW
  obtain ⟨p, q, hA0, hV, rfl, hfz, hnd⟩ := hW
  have hA : DataW.TrodAll enc Tryd.prog W 0 (fun _ => true) true Tryd.f8.params.toList args.toList ds p := hA0
  rw [Tryd.params8] at hA hval
  obtain ⟨v0, vs0, d0, ds0, p0, q0, hargs, rfl, rfl, h0, r0⟩ := trodAll_cons hA
  obtain ⟨v1, vs1, d1, ds1, p1, q1, rfl, rfl, rfl, h1, r1⟩ := trodAll_cons r0
  obtain ⟨v2, vs2, d2, ds2, p2, q2, rfl, rfl, rfl, h2, r2⟩ := trodAll_cons r1
  obtain ⟨v3, vs3, d3, ds3, p3, q3, rfl, rfl, rfl, h3, r3⟩ := trodAll_cons r2
  obtain ⟨v4, vs4, d4, ds4, p4, q4, rfl, rfl, rfl, h4, r4⟩ := trodAll_cons r3
  obtain ⟨v5, vs5, d5, ds5, p5, q5, rfl, rfl, rfl, h5, r5⟩ := trodAll_cons r4
  obtain ⟨rfl, rfl, rfl⟩ := trodAll_nil r5
  obtain rfl : args = #[v0, v1, v2, v3, v4, v5] := by cases args; simp_all
  obtain ⟨rfl, rfl⟩ := trodVars_none hV
  obtain ⟨x0, hp0, hb0, hl0⟩ := arg_bss (hval 0 23 v0 rfl rfl) h0
  obtain ⟨x1, hp1, hb1, hl1⟩ := arg_bss (hval 1 23 v1 rfl rfl) h1
  obtain ⟨b2, rfl, rfl, rfl⟩ := open_bool Tryd.underlying4 (hval 2 4 v2 rfl rfl) h2
  obtain ⟨i3, rfl, rfl, rfl, hr3⟩ := open_int Tryd.underlying3 (hval 3 3 v3 rfl rfl) h3
  obtain ⟨i4, rfl, rfl, rfl, hr4⟩ := open_int Tryd.underlying3 (hval 4 3 v4 rfl rfl) h4
  obtain ⟨x5, hp5, hl5⟩ := arg_is (hval 5 73 v5 rfl rfl) h5
  exact law_calls (F8 v0 x0 v1 x1 b2 i3 i4 v5 x5 W.heap hp0 hb0 hp1 hb1 (i64_rng hr3) (i64_rng hr4) hp5 (tab_of hL) (Nat.le_trans hl0 (bulk_of hk (d := d0) (by simp))) (Nat.le_trans hl1 (bulk_of hk (d := d1) (by simp))) (Nat.le_trans hl5 (bulk_of hk (d := d5) (by simp)))) fun W' hb => law_post laidOut (by kernel_rfl) rfl (by kernel_rfl) Tryd.underlying4 ⟨rfl, rfl, rfl⟩ hW' hb
set_option maxRecDepth 100000 in
theorem fileswhole_lifted (os : Os) (started : os.Started) (D : Type) (enc : TypeId × Value → D) (F : Stop.Interp) :
    ReturnsInHanded {} Tryd.checked os 8 .any ((Rows.OpenSpec.upto Rows.filesWholeSpec).preRow enc Tryd.prog Tryd.f8 Rows.filesWholeUptoRow.domain false Rows.filesWholeUptoRow.laid) (((Rows.OpenSpec.upto Rows.filesWholeSpec).at F).post enc Tryd.prog Tryd.f8 false true false false) := by
  refine returnsInHanded_of_row (C := Tryd.checked) (s := Rows.OpenSpec.upto Rows.filesWholeSpec) own started (by kernel_rfl) Tryd.func8
    (witness_row_at (enc := enc) (C := Tryd.checked) false (World.doorLaid Tryd.prog 400 os) #[.slice none 0 0, .slice none 0 0, .bool false, .int .i64 0, .int .i64 0, .slice none 0 0] rfl (by kernel_rfl) (by kernel_rfl) (by kernel_rfl)
      (OpenSpec.preRow_of_cond (x := ([.nil, .nil, .lit (.bool false), .lit (.int .i64 0), .lit (.int .i64 0), .nil], [], [])) 8 (by kernel_rfl) (by kernel_rfl) (fun k hk => by cases hk; kernel_rfl) (by kernel_rfl) (door_met os _))) ?_
  intro W base args ds gs before hval hW _ hcond _ hL _ _
  exact fileswhole_contract D enc W base args ds gs before hval hW hL (hcond _ rfl)
theorem fileswhole_said : Rows.FilesWholeUptoSaid :=
  OpenClaim.holds_of_cond 8 Tryd.f8 rfl rfl rfl rfl rfl rfl rfl ⟨rfl, rfl, rfl, rfl, rfl⟩ rfl rfl rfl rfl rfl (by kernel_rfl) Tryd.func8 (by kernel_rfl)
    (of_decide_eq_true (by kernel_rfl)) (by unfold Func.isWrapper; first | (rw [if_pos (by decide +kernel)]; kernel_rfl) | (rw [if_neg (by decide +kernel)]; exact ⟨rfl, rfl⟩))
    (fun os started D enc _ F => by rw [OpenClaim.pre_eq_preRow]; exact fileswhole_lifted os started D enc F)
theorem fileswhole_plain (f : FuncId) (fn : Func) (hf : Tryd.pinned.checked.prog.funcNamed "pith/pithlaw9.FilesWhole" = some f) (hfn : Tryd.pinned.checked.prog.funcs[f]? = some fn) :
    true = Tryd.pinned.checked.prog.looks [] ∧ ∀ (j : Nat) t, fn.params[j]? = some t → Tryd.pinned.checked.prog.wantsStandIn t = false := by
  obtain rfl : f = 8 := Option.some.inj ((show Tryd.prog.funcNamed "pith/pithlaw9.FilesWhole" = some 8 by kernel_rfl).symm.trans hf) |>.symm
  obtain rfl : fn = Tryd.f8 := (Option.some.inj (Tryd.func8.symm.trans hfn)).symm
  refine ⟨by kernel_rfl, fun j t ht => ?_⟩
  rw [Tryd.params8] at ht
  have hm : t ∈ [23, 23, 4, 3, 3, 73] := by simpa using Array.mem_of_getElem? ht
  have hall : ([23, 23, 4, 3, 3, 73].all fun u => !Tryd.prog.wantsStandIn u) = true := by kernel_rfl
  exact (show Tryd.prog.wantsStandIn t = false by simpa using List.all_eq_true.1 hall t hm)
theorem fileswhole_card : Rows.FilesWholeUptoCardSaid :=
  Claim7.holds_tied_plain_at .later [] _ _ _ _ fileswhole_said (fun _ h => by cases h) (by kernel_rfl) (fun _ h => by cases h) filesWholeUpto_row_tie rfl ⟨rfl, rfl⟩ (by kernel_rfl) rfl fileswhole_plain (by kernel_rfl)
end Go.Proofs.YtgpoldjpmcoppaaDoor
