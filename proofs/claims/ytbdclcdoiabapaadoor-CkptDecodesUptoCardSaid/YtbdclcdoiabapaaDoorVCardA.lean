/- The card of CkptNames: whatever the generation, the law answers true and leaves its input as it was; the three listed tables hold what the program text lays. -/
import Derived.Test.YtbdclcdoiabapaaDoorVLawA
import Derived.Test.YtbdclcdoiabapaaDoorVCard
import Derived.Test.YtbdclcdoiabapaaDoorCards
import Derived.Test.YtbdclcdoiabapaaDoorTie
import Derived.Stop.LaidErr
import Derived.MakeChecks
import Derived.LaidMore
set_option linter.unusedSimpArgs false
set_option linter.unusedVariables false
namespace Go.Proofs.YtbdclcdoiabapaaDoor
open Go Go.V Go.ChangeShapes Go.WideShapes Go.ChangeAt Go.RowKit
-- 3: pith/pithlaw18.CkptNames
-- 4: pith/pithlaw18.CkptEncodes
-- 3: int
-- 4: bool
-- 28: pith/api.Check
-- 25: []int
-- 26: []bool
-- 90: uint64
-- 96: [20]uint64

theorem own : ownKnob Tryd.prog.godebug = none := by kernel_rfl
theorem laidOut : laidOutB Tryd.prog = true := by kernel_rfl
theorem gTab : Tryd.prog.globalNamed "internal/strconv.uint64pow10" = some 0 := by kernel_rfl
theorem gTabType : (Tryd.prog.globals[0]?).map (·.type) = some 96 := by kernel_rfl
theorem cellsTab : Tryd.prog.cellsOf 96 = 20 := by kernel_rfl
theorem cellsU64 : Tryd.prog.cellsOf 90 = 1 := by kernel_rfl
theorem cellsInt : Tryd.prog.cellsOf 3 = 1 := by kernel_rfl
theorem cellsBool : Tryd.prog.cellsOf 4 = 1 := by kernel_rfl
theorem cellsIs : Tryd.prog.cellsOf 25 = 1 := by kernel_rfl
theorem cellsBls : Tryd.prog.cellsOf 26 = 1 := by kernel_rfl
theorem cellsChk : Tryd.prog.cellsOf 28 = 3 := by kernel_rfl

/-- What the rows' list gives: the table of powers of ten. -/
theorem tab_of {W : World} (h : laidMetH Tryd.prog Rows.ckptNamesRow.laid W) : Tab W.heap := by
  intro w hw
  rw [MakeChecks.laidMetH_plain _ _ _ (by kernel_rfl)] at h
  have h3 := (laidMet.tail (laidMet.tail h))
  have h4 : Lib.TabIs Tryd.prog W "internal/strconv.uint64pow10" .u64 Lib.pow10Tab := Lib.tabIs_of_head (rest := []) gTab gTabType Tryd.underlying96 Tryd.underlying90 cellsU64 cellsTab h3
  unfold Lib.TabIs World.var? at h4 ⊢
  rw [hw]
  exact h4

/-- A world for the witness: the door's own. -/
theorem door_met (os : Os) (args : Array Value) : laidMet Tryd.prog Rows.ckptNamesRow.laid ((World.doorLaid Tryd.prog 400 os).forCall (fun _ _ => 0) ⟨#[], args, []⟩).memory :=
  laidMet_of_run' 8 (by kernel_rfl) (by kernel_rfl)

theorem names_contract (D : Type) (enc : TypeId × Value → D) (W : World) (base : Nat) (args : Array Value) (ds gs : List (DataW D)) (before : List MemPlace)
    (hval : ∀ (j : Nat) t v, Tryd.f3.params[j]? = some t → args[j]? = some v → Value.okWide Tryd.prog W .any base t v)
    (hW : DataW.Whole enc Tryd.prog Tryd.f3.params.toList Rows.ckptNamesSpec.vars false W args.toList ds gs before) (hL : laidMetH Tryd.prog Rows.ckptNamesRow.laid W) :
    Calls Tryd.prog 3 args W fun e W' => ∃ v, e = .returned v ∧ Rows.ckptNamesSpec.post enc Tryd.prog Tryd.f3 false true false false W args v W' := by
  have hW' := hW
  obtain ⟨p, q, hA0, hV, rfl, hfz, hnd⟩ := hW
  have hA : DataW.TrodAll enc Tryd.prog W 0 (fun _ => true) true Tryd.f3.params.toList args.toList ds p := hA0
  rw [Tryd.params3] at hA hval
  obtain ⟨v0, vs0, d0, ds0, p0, q0, hargs, rfl, rfl, h0, r0⟩ := trodAll_cons hA
  obtain ⟨rfl, rfl, rfl⟩ := trodAll_nil r0
  obtain rfl : args = #[v0] := by cases args; simp_all
  obtain ⟨rfl, rfl⟩ := trodVars_none hV
  obtain ⟨n, rfl, rfl, rfl, hw⟩ := open_int Tryd.underlying3 (hval 0 3 v0 rfl rfl) h0
  have hn : n ≤ 9223372036854775807 := by
    simp only [Lit.wf, Bool.and_eq_true, decide_eq_true_eq] at hw
    exact hw.2
  exact law_calls (F3 n W.heap (tab_of hL) hn) fun W' hb => law_post laidOut (by kernel_rfl) rfl (by kernel_rfl) Tryd.underlying4 ⟨rfl, rfl, rfl⟩ hW' hb

set_option maxRecDepth 100000 in
theorem names_lifted (os : Os) (started : os.Started) (D : Type) (enc : TypeId × Value → D) (F : Stop.Interp) :
    ReturnsInHanded {} Tryd.checked os 3 .any ((OpenSpec.ofChange Rows.ckptNamesSpec).preRow enc Tryd.prog Tryd.f3 Rows.ckptNamesRow.domain false Rows.ckptNamesRow.laid) (((OpenSpec.ofChange Rows.ckptNamesSpec).at F).post enc Tryd.prog Tryd.f3 false true false false) := by
  refine returnsInHanded_of_row (C := Tryd.checked) (s := OpenSpec.ofChange Rows.ckptNamesSpec) own started (by kernel_rfl) Tryd.func3
    (witness_row_at (enc := enc) (C := Tryd.checked) false (World.doorLaid Tryd.prog 400 os) #[.int .i64 0] rfl (by kernel_rfl) (by kernel_rfl) (by kernel_rfl)
      (OpenSpec.preRow_of_cond (x := ([.lit (.int .i64 0)], [], [])) 8 (by kernel_rfl) (by kernel_rfl) (fun k hk => by cases hk) (by kernel_rfl) (door_met os _))) ?_
  intro W base args ds gs before hval hW _ _ _ hL _ _
  exact names_contract D enc W base args ds gs before hval hW hL

theorem names_said : Rows.CkptNamesSaid :=
  OpenClaim.holds_of_cond 3 Tryd.f3 rfl rfl rfl rfl rfl rfl rfl ⟨rfl, rfl, rfl, rfl, rfl⟩ rfl rfl rfl rfl rfl (by kernel_rfl) Tryd.func3 (by kernel_rfl)
    (of_decide_eq_true (by kernel_rfl)) (by unfold Func.isWrapper; first | (rw [if_pos (by decide +kernel)]; kernel_rfl) | (rw [if_neg (by decide +kernel)]; exact ⟨rfl, rfl⟩))
    (fun os started D enc _ F => by rw [OpenClaim.pre_eq_preRow]; exact names_lifted os started D enc F)

theorem names_plain (f : FuncId) (fn : Func) (hf : Tryd.pinned.checked.prog.funcNamed "pith/pithlaw18.CkptNames" = some f) (hfn : Tryd.pinned.checked.prog.funcs[f]? = some fn) :
    false = Tryd.pinned.checked.prog.looks [] ∧ ∀ (j : Nat) t, fn.params[j]? = some t → Tryd.pinned.checked.prog.wantsStandIn t = false := by
  obtain rfl : f = 3 := Option.some.inj ((show Tryd.prog.funcNamed "pith/pithlaw18.CkptNames" = some 3 by kernel_rfl).symm.trans hf) |>.symm
  obtain rfl : fn = Tryd.f3 := (Option.some.inj (Tryd.func3.symm.trans hfn)).symm
  refine ⟨by kernel_rfl, fun j t ht => ?_⟩
  rw [Tryd.params3] at ht
  have hm : t ∈ [3] := by simpa using Array.mem_of_getElem? ht
  have hall : ([3].all fun u => !Tryd.prog.wantsStandIn u) = true := by kernel_rfl
  exact (show Tryd.prog.wantsStandIn t = false by simpa using List.all_eq_true.1 hall t hm)

theorem names_card : Rows.CkptNamesCardSaid :=
  Claim7.holds_tied_plain_at .later [] _ _ _ _ names_said (fun _ h => by cases h) (by kernel_rfl) (fun _ h => by cases h) ckptNames_row_tie rfl ⟨rfl, rfl⟩ (by kernel_rfl) rfl names_plain (by kernel_rfl)
end Go.Proofs.YtbdclcdoiabapaaDoor
