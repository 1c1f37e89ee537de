/- The card of CkptWhole: whatever the arguments, the law answers true and leaves its input as it was; the listed tables hold what the program text lays. -/
import Derived.Test.YtgigigchjnnonaaGreatDoorM1
import Derived.Test.YtgigigchjnnonaaGreatDoorVCkW
set_option linter.unusedSimpArgs false
set_option linter.unusedVariables false
set_option maxRecDepth 20000
namespace Go.Proofs.YtgigigchjnnonaaGreatDoor
open Go Go.V Go.ChangeShapes Go.WideShapes Go.ChangeAt Go.RowKit
theorem ckptwhole_contract (D : Type) (enc : TypeId × Value → D) (W : World) (base : Nat) (args : Array Value) (ds gs : List (DataW D)) (before : List MemPlace)
    (hval : ∀ (j : Nat) t v, Tryz.f4.params[j]? = some t → args[j]? = some v → Value.okWide Tryz.prog W .any base t v)
    (hW : DataW.Whole enc Tryz.prog Tryz.f4.params.toList Rows.ckptWholeSpec.vars false W args.toList ds gs before) (hL : laidMetH Tryz.prog Rows.ckptWholeRow.laid W) (hsz : (DataW.weightsEach Tryz.prog (Tryz.f4.params.toList ++ (OpenSpec.ofChange Rows.ckptWholeSpec).bare.plain.varTypes Tryz.prog) (ds ++ gs)).all (· ≤ reachBytes) = true) :
    Calls Tryz.prog 4 args W fun e W' => ∃ v, e = .returned v ∧ Rows.ckptWholeSpec.post enc Tryz.prog Tryz.f4 false true false false W args v W' := by
  have hW' := hW
  obtain ⟨p, q, hA0, hV, rfl, hfz, hnd⟩ := hW
  have hA : DataW.TrodAll enc Tryz.prog W 0 (fun _ => true) true Tryz.f4.params.toList args.toList ds p := hA0
  rw [Tryz.params4] at hA hval
  obtain ⟨v0, vs0, d0, ds0, p0, q0, hargs, rfl, rfl, h0, r0⟩ := trodAll_cons hA
  obtain ⟨v1, vs1, d1, ds1, p1, q1, rfl, rfl, rfl, h1, r1⟩ := trodAll_cons r0
  obtain ⟨v2, vs2, d2, ds2, p2, q2, rfl, rfl, rfl, h2, r2⟩ := trodAll_cons r1
  obtain ⟨v3, vs3, d3, ds3, p3, q3, rfl, rfl, rfl, h3, r3⟩ := trodAll_cons r2
  obtain ⟨v4, vs4, d4, ds4, p4, q4, rfl, rfl, rfl, h4, r4⟩ := trodAll_cons r3
  obtain ⟨v5, vs5, d5, ds5, p5, q5, rfl, rfl, rfl, h5, r5⟩ := trodAll_cons r4
  obtain ⟨rfl, rfl, rfl⟩ := trodAll_nil r5
  obtain rfl : args = #[v0, v1, v2, v3, v4, v5] := by cases args; simp_all
  obtain ⟨rfl, rfl⟩ := trodVars_none hV
  have hsz' : (DataW.weightsEach Tryz.prog [22, 22, 23, 3, 3, 22] [d0, d1, d2, d3, d4, d5]).all (· ≤ reachBytes) = true := by rw [Tryz.params4] at hsz; exact hsz
  obtain ⟨x0, hp0, hl0⟩ := sized_is (hval 0 22 v0 rfl rfl) h0 (fun w hw => by simpa using List.all_eq_true.1 hsz' w (by simp [DataW.weightsEach, hw]))
  obtain ⟨x1, hp1, hl1⟩ := sized_is (hval 1 22 v1 rfl rfl) h1 (fun w hw => by simpa using List.all_eq_true.1 hsz' w (by simp [DataW.weightsEach, hw]))
  obtain ⟨x2, hp2, hl2⟩ := arg_bls (hval 2 23 v2 rfl rfl) h2
  obtain ⟨i3, rfl, rfl, rfl, hr3⟩ := open_int Tryz.underlying3 (hval 3 3 v3 rfl rfl) h3
  obtain ⟨i4, rfl, rfl, rfl, hr4⟩ := open_int Tryz.underlying3 (hval 4 3 v4 rfl rfl) h4
  obtain ⟨x5, hp5, hl5⟩ := sized_is (hval 5 22 v5 rfl rfl) h5 (fun w hw => by simpa using List.all_eq_true.1 hsz' w (by simp [DataW.weightsEach, hw]))
  exact law_calls (F4 v0 x0 v1 x1 v2 x2 i3 i4 v5 x5 W.heap hp0 hp1 hp2 (i64_rng hr3) (i64_rng hr4) hp5 (tab_of hL) (pow_of hL) hl0 hl1 hl5) fun W' hb => law_post laidOut (by kernel_rfl) rfl (by kernel_rfl) Tryz.underlying4 ⟨rfl, rfl, rfl⟩ hW' hb
set_option maxRecDepth 100000 in
theorem ckptwhole_lifted (os : Os) (started : os.Started) (D : Type) (enc : TypeId × Value → D) (F : Stop.Interp) :
    ReturnsInHanded {} Tryz.checked os 4 .any ((OpenSpec.ofChange Rows.ckptWholeSpec).preRow enc Tryz.prog Tryz.f4 Rows.ckptWholeRow.domain false Rows.ckptWholeRow.laid) (((OpenSpec.ofChange Rows.ckptWholeSpec).at F).post enc Tryz.prog Tryz.f4 false true false false) := by
  refine returnsInHanded_of_row (C := Tryz.checked) (s := OpenSpec.ofChange Rows.ckptWholeSpec) own started (by kernel_rfl) Tryz.func4
    (witness_row_at (enc := enc) (C := Tryz.checked) false (World.doorLaid Tryz.prog 400 os) #[.slice none 0 0, .slice none 0 0, .slice none 0 0, .int .i64 0, .int .i64 0, .slice none 0 0] rfl (by kernel_rfl) (by kernel_rfl) (by kernel_rfl)
      (OpenSpec.preRow_of_cond (x := ([.nil, .nil, .nil, .lit (.int .i64 0), .lit (.int .i64 0), .nil], [], [])) 8 (by kernel_rfl) (by kernel_rfl) (fun k hk => by cases hk) (by kernel_rfl) (door_met os _))) ?_
  intro W base args ds gs before hval hW _ hcond hsz hL _ _
  exact ckptwhole_contract D enc W base args ds gs before hval hW hL hsz
theorem ckptwhole_said : Rows.CkptWholeSaid :=
  OpenClaim.holds_of_cond 4 Tryz.f4 rfl rfl rfl rfl rfl rfl rfl ⟨rfl, rfl, rfl, rfl, rfl⟩ rfl rfl rfl rfl rfl (by kernel_rfl) Tryz.func4 (by kernel_rfl)
    (of_decide_eq_true (by kernel_rfl)) (by unfold Func.isWrapper; first | (rw [if_pos (by decide +kernel)]; kernel_rfl) | (rw [if_neg (by decide +kernel)]; exact ⟨rfl, rfl⟩))
    (fun os started D enc _ F => by rw [OpenClaim.pre_eq_preRow]; exact ckptwhole_lifted os started D enc F)
theorem ckptwhole_plain (f : FuncId) (fn : Func) (hf : Tryz.pinned.checked.prog.funcNamed "pith/pithlaw18.CkptWhole" = some f) (hfn : Tryz.pinned.checked.prog.funcs[f]? = some fn) :
    true = Tryz.pinned.checked.prog.looks [] ∧ ∀ (j : Nat) t, fn.params[j]? = some t → Tryz.pinned.checked.prog.wantsStandIn t = false := by
  obtain rfl : f = 4 := Option.some.inj ((show Tryz.prog.funcNamed "pith/pithlaw18.CkptWhole" = some 4 by kernel_rfl).symm.trans hf) |>.symm
  obtain rfl : fn = Tryz.f4 := (Option.some.inj (Tryz.func4.symm.trans hfn)).symm
  refine ⟨by kernel_rfl, fun j t ht => ?_⟩
  rw [Tryz.params4] at ht
  have hm : t ∈ [22, 22, 23, 3, 3, 22] := by simpa using Array.mem_of_getElem? ht
  have hall : ([22, 22, 23, 3, 3, 22].all fun u => !Tryz.prog.wantsStandIn u) = true := by kernel_rfl
  exact (show Tryz.prog.wantsStandIn t = false by simpa using List.all_eq_true.1 hall t hm)
theorem ckptwhole_card : Rows.CkptWholeCardSaid :=
  Claim7.holds_tied_plain_at .later [] _ _ _ _ ckptwhole_said (fun _ h => by cases h) (by kernel_rfl) (fun _ h => by cases h) ckptWhole_row_tie rfl ⟨rfl, rfl⟩ (by kernel_rfl) rfl ckptwhole_plain (by kernel_rfl)
end Go.Proofs.YtgigigchjnnonaaGreatDoor
