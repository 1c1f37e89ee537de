/- The card of CkptSpoilt: whatever the arguments, the law answers true and leaves its input as it was; the listed tables hold what the program text lays. -/
import Derived.Test.YtgigigchjnnonaaDoorM1
import Derived.Test.YtgigigchjnnonaaDoorVCkS
set_option linter.unusedSimpArgs false
set_option linter.unusedVariables false
set_option maxRecDepth 20000
namespace Go.Proofs.YtgigigchjnnonaaDoor
open Go Go.V Go.ChangeShapes Go.WideShapes Go.ChangeAt Go.RowKit
-- 4: pith/pithlaw18.CkptSpoilt
-- 4: bool
-- 23: []bool
-- 3: int
-- 22: []int
-- 39: uint32
theorem ckptspoilt_contract (D : Type) (enc : TypeId × Value → D) (W : World) (base : Nat) (args : Array Value) (ds gs : List (DataW D)) (before : List MemPlace)
    (hval : ∀ (j : Nat) t v, Tryd.f4.params[j]? = some t → args[j]? = some v → Value.okWide Tryd.prog W .any base t v)
    (hW : DataW.Whole enc Tryd.prog Tryd.f4.params.toList Rows.ckptSpoiltSpec.vars false W args.toList ds gs before) (hL : laidMetH Tryd.prog Rows.ckptKeepsRow.laid W) :
    Calls Tryd.prog 4 args W fun e W' => ∃ v, e = .returned v ∧ Rows.ckptSpoiltSpec.post enc Tryd.prog Tryd.f4 false true false false W args v W' := by
  have hW' := hW
  obtain ⟨p, q, hA0, hV, rfl, hfz, hnd⟩ := hW
  have hA : DataW.TrodAll enc Tryd.prog W 0 (fun _ => true) true Tryd.f4.params.toList args.toList ds p := hA0
  rw [Tryd.params4] at hA hval
  obtain ⟨v0, vs0, d0, ds0, p0, q0, hargs, rfl, rfl, h0, r0⟩ := trodAll_cons hA
  obtain ⟨v1, vs1, d1, ds1, p1, q1, rfl, rfl, rfl, h1, r1⟩ := trodAll_cons r0
  obtain ⟨v2, vs2, d2, ds2, p2, q2, rfl, rfl, rfl, h2, r2⟩ := trodAll_cons r1
  obtain ⟨v3, vs3, d3, ds3, p3, q3, rfl, rfl, rfl, h3, r3⟩ := trodAll_cons r2
  obtain ⟨rfl, rfl, rfl⟩ := trodAll_nil r3
  obtain rfl : args = #[v0, v1, v2, v3] := by cases args; simp_all
  obtain ⟨rfl, rfl⟩ := trodVars_none hV
  obtain ⟨x0, hp0, hl0⟩ := arg_is (hval 0 22 v0 rfl rfl) h0
  obtain ⟨x1, hp1, hl1⟩ := arg_bls (hval 1 23 v1 rfl rfl) h1
  obtain ⟨i2, rfl, rfl, rfl, hr2⟩ := open_int Tryd.underlying3 (hval 2 3 v2 rfl rfl) h2
  obtain ⟨i3, rfl, rfl, rfl, hr3⟩ := open_int Tryd.underlying39 (hval 3 39 v3 rfl rfl) h3
  exact law_calls (F4 v0 x0 v1 x1 i2 i3 W.heap hp0 hp1 (i64_rng hr2) (u32_rng hr3) (tab_of hL) (pow_of hL) ) fun W' hb => law_post laidOut (by kernel_rfl) rfl (by kernel_rfl) Tryd.underlying4 ⟨rfl, rfl, rfl⟩ hW' hb
set_option maxRecDepth 100000 in
theorem ckptspoilt_lifted (os : Os) (started : os.Started) (D : Type) (enc : TypeId × Value → D) (F : Stop.Interp) :
    ReturnsInHanded {} Tryd.checked os 4 .any ((OpenSpec.ofChange Rows.ckptSpoiltSpec).preRow enc Tryd.prog Tryd.f4 Rows.ckptSpoiltRow.domain false Rows.ckptSpoiltRow.laid) (((OpenSpec.ofChange Rows.ckptSpoiltSpec).at F).post enc Tryd.prog Tryd.f4 false true false false) := by
  refine returnsInHanded_of_row (C := Tryd.checked) (s := OpenSpec.ofChange Rows.ckptSpoiltSpec) own started (by kernel_rfl) Tryd.func4
    (witness_row_at (enc := enc) (C := Tryd.checked) false (World.doorLaid Tryd.prog 400 os) #[.slice none 0 0, .slice none 0 0, .int .i64 0, .int .u32 0] rfl (by kernel_rfl) (by kernel_rfl) (by kernel_rfl)
      (OpenSpec.preRow_of_cond (x := ([.nil, .nil, .lit (.int .i64 0), .lit (.int .u32 0)], [], [])) 8 (by kernel_rfl) (by kernel_rfl) (fun k hk => by cases hk) (by kernel_rfl) (door_met os _))) ?_
  intro W base args ds gs before hval hW _ hcond _ hL _ _
  exact ckptspoilt_contract D enc W base args ds gs before hval hW hL
theorem ckptspoilt_said : Rows.CkptSpoiltSaid :=
  OpenClaim.holds_of_cond 4 Tryd.f4 rfl rfl rfl rfl rfl rfl rfl ⟨rfl, rfl, rfl, rfl, rfl⟩ rfl rfl rfl rfl rfl (by kernel_rfl) Tryd.func4 (by kernel_rfl)
    (of_decide_eq_true (by kernel_rfl)) (by unfold Func.isWrapper; first | (rw [if_pos (by decide +kernel)]; kernel_rfl) | (rw [if_neg (by decide +kernel)]; exact ⟨rfl, rfl⟩))
    (fun os started D enc _ F => by rw [OpenClaim.pre_eq_preRow]; exact ckptspoilt_lifted os started D enc F)
theorem ckptspoilt_plain (f : FuncId) (fn : Func) (hf : Tryd.pinned.checked.prog.funcNamed "pith/pithlaw18.CkptSpoilt" = some f) (hfn : Tryd.pinned.checked.prog.funcs[f]? = some fn) :
    true = Tryd.pinned.checked.prog.looks [] ∧ ∀ (j : Nat) t, fn.params[j]? = some t → Tryd.pinned.checked.prog.wantsStandIn t = false := by
  obtain rfl : f = 4 := Option.some.inj ((show Tryd.prog.funcNamed "pith/pithlaw18.CkptSpoilt" = some 4 by kernel_rfl).symm.trans hf) |>.symm
  obtain rfl : fn = Tryd.f4 := (Option.some.inj (Tryd.func4.symm.trans hfn)).symm
  refine ⟨by kernel_rfl, fun j t ht => ?_⟩
  rw [Tryd.params4] at ht
  have hm : t ∈ [22, 23, 3, 39] := by simpa using Array.mem_of_getElem? ht
  have hall : ([22, 23, 3, 39].all fun u => !Tryd.prog.wantsStandIn u) = true := by kernel_rfl
  exact (show Tryd.prog.wantsStandIn t = false by simpa using List.all_eq_true.1 hall t hm)
theorem ckptspoilt_card : Rows.CkptSpoiltCardSaid :=
  Claim7.holds_tied_plain_at .later [] _ _ _ _ ckptspoilt_said (fun _ h => by cases h) (by kernel_rfl) (fun _ h => by cases h) ckptSpoilt_row_tie rfl ⟨rfl, rfl⟩ (by kernel_rfl) rfl ckptspoilt_plain (by kernel_rfl)
end Go.Proofs.YtgigigchjnnonaaDoor
