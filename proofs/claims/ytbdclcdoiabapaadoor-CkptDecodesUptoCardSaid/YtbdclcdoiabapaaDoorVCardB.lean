/- The card of CkptEncodes: whatever the generation and the check, the law answers true and leaves its input as it was; the three listed tables hold what the program text lays. -/
import Derived.Test.YtbdclcdoiabapaaDoorVCardA
set_option linter.unusedSimpArgs false
set_option linter.unusedVariables false
namespace Go.Proofs.YtbdclcdoiabapaaDoor
open Go Go.V Go.ChangeShapes Go.WideShapes Go.ChangeAt Go.RowKit
-- 4: pith/pithlaw18.CkptEncodes
-- 3: int
-- 4: bool
-- 28: pith/api.Check
-- 25: []int
-- 26: []bool

/-- A check among the arguments. -/
theorem open_chk {D : Type} {enc : TypeId × Value → D} {W : World} {base : Nat} {sp : Nat → Bool} {held : Bool} {v : Value} {d : DataW D} {ps : List MemPlace} (hv : Value.okWide Tryd.prog W .any base 28 v) (h : DataW.Trod enc Tryd.prog W 0 sp held 28 v d ps) :
    ∃ (p : Int) (xs : List Int) (ds : List Bool), Chk W.heap 3 4 v p xs ds ∧ IntR .i64 p ∧ (∀ x ∈ xs, IntR .i64 x) ∧ ∃ d0 d1 d2, d = .agg [d0, d1, d2] ∧ dlen d1 = xs.length ∧ dlen d2 = ds.length := by
  obtain ⟨fuel, hf⟩ := h
  have hag : ∃ cs, v = .agg cs := by
    obtain ⟨cs, h1, _⟩ := okWide_struct Tryd.underlying28 hv
    exact ⟨cs, h1⟩
  obtain ⟨cs, rfl⟩ := hag
  obtain ⟨xs, n, _, hx, hl, hlen, hfs⟩ := DataW.trod_struct Tryd.underlying28 hf
  rw [cellsChk] at hl
  obtain ⟨c0, c1, c2, hc⟩ : ∃ c0 c1 c2, cs.toList = [c0, c1, c2] := by
    match h : cs.toList, hl with
    | [a, b, c], _ => exact ⟨a, b, c, rfl⟩
  have hl3 : xs.length = 3 := hlen
  obtain ⟨y0, y1, y2, rfl⟩ : ∃ y0 y1 y2, xs = [y0, y1, y2] := by
    match xs, hl3 with
    | [a, b, c], _ => exact ⟨a, b, c, rfl⟩
  have t0 : DataW.trod enc Tryd.prog W 0 sp held n 3 ((cs.toList.drop 0).take (Tryd.prog.cellsOf 3)) = some y0 := hfs 0 _ rfl
  have t1 : DataW.trod enc Tryd.prog W 0 sp held n 25 ((cs.toList.drop 1).take (Tryd.prog.cellsOf 25)) = some y1 := hfs 1 _ rfl
  have t2 : DataW.trod enc Tryd.prog W 0 sp held n 26 ((cs.toList.drop 2).take (Tryd.prog.cellsOf 26)) = some y2 := hfs 2 _ rfl
  rw [hc, cellsInt] at t0
  rw [hc, cellsIs] at t1
  rw [hc, cellsBls] at t2
  obtain ⟨p, h0, h0', hw⟩ := DataW.trod_int Tryd.underlying3 t0
  obtain ⟨v1, zs, h1, hi, hzw, hz⟩ := open_intsl Tryd.underlying25 Tryd.underlying3 cellsInt t1
  obtain ⟨v2, bs, h2, hb, hbl⟩ := open_boolsl Tryd.underlying26 Tryd.underlying4 cellsBool t2
  replace h0 : c0 = .int .i64 p := by simpa using h0
  replace h1 : c1 = v1 := by simpa using h1
  replace h2 : c2 = v2 := by simpa using h2
  subst h0 h1 h2
  have hcs : cs = #[.int .i64 p, c1, c2] := by
    have := congrArg List.toArray hc
    simpa using this
  rw [hcs]
  refine ⟨p, zs, bs, ⟨c1, c2, rfl, hi, hb⟩, hw, hzw, y0.1, y1.1, y2.1, ?_, hz, hbl⟩
  have := congrArg Prod.fst hx
  simpa using this

theorem encodes_contract (D : Type) (enc : TypeId × Value → D) (W : World) (base : Nat) (args : Array Value) (ds gs : List (DataW D)) (before : List MemPlace)
    (hval : ∀ (j : Nat) t v, Tryd.f4.params[j]? = some t → args[j]? = some v → Value.okWide Tryd.prog W .any base t v)
    (hW : DataW.Whole enc Tryd.prog Tryd.f4.params.toList Rows.ckptEncodesSpec.vars false W args.toList ds gs before) (hL : laidMetH Tryd.prog Rows.ckptNamesRow.laid W) :
    Calls Tryd.prog 4 args W fun e W' => ∃ v, e = .returned v ∧ Rows.ckptEncodesSpec.post enc Tryd.prog Tryd.f4 false true false false W args v W' := by
  have hW' := hW
  obtain ⟨p, q, hA0, hV, rfl, hfz, hnd⟩ := hW
  have hA : DataW.TrodAll enc Tryd.prog W 0 (fun _ => true) true Tryd.f4.params.toList args.toList ds p := hA0
  rw [Tryd.params4] at hA hval
  obtain ⟨v0, vs0, d0, ds0, p0, q0, hargs, rfl, rfl, h0, r0⟩ := trodAll_cons hA
  obtain ⟨v1, vs1, d1, ds1, p1, q1, rfl, rfl, rfl, h1, r1⟩ := trodAll_cons r0
  obtain ⟨rfl, rfl, rfl⟩ := trodAll_nil r1
  obtain rfl : args = #[v0, v1] := by cases args; simp_all
  obtain ⟨rfl, rfl⟩ := trodVars_none hV
  obtain ⟨n, rfl, rfl, rfl, hw⟩ := open_int Tryd.underlying3 (hval 0 3 v0 rfl rfl) h0
  obtain ⟨k, xs, bs, hc, _⟩ := open_chk (hval 1 28 v1 rfl rfl) h1
  exact law_calls (F4 v1 n k xs bs W.heap hc (tab_of hL)) fun W' hb => law_post laidOut (by kernel_rfl) rfl (by kernel_rfl) Tryd.underlying4 ⟨rfl, rfl, rfl⟩ hW' hb

set_option maxRecDepth 100000 in
theorem encodes_lifted (os : Os) (started : os.Started) (D : Type) (enc : TypeId × Value → D) (F : Stop.Interp) :
    ReturnsInHanded {} Tryd.checked os 4 .any ((OpenSpec.ofChange Rows.ckptEncodesSpec).preRow enc Tryd.prog Tryd.f4 Rows.ckptEncodesRow.domain false Rows.ckptEncodesRow.laid) (((OpenSpec.ofChange Rows.ckptEncodesSpec).at F).post enc Tryd.prog Tryd.f4 false true false false) := by
  refine returnsInHanded_of_row (C := Tryd.checked) (s := OpenSpec.ofChange Rows.ckptEncodesSpec) own started (by kernel_rfl) Tryd.func4
    (witness_row_at (enc := enc) (C := Tryd.checked) false (World.doorLaid Tryd.prog 400 os) #[.int .i64 0, .agg #[.int .i64 0, .slice none 0 0, .slice none 0 0]] rfl (by kernel_rfl) (by kernel_rfl) (by kernel_rfl)
      (OpenSpec.preRow_of_cond (x := ([.lit (.int .i64 0), .agg [.lit (.int .i64 0), .nil, .nil]], [], [])) 8 (by kernel_rfl) (by kernel_rfl) (fun k hk => by cases hk) (by kernel_rfl) (door_met os _))) ?_
  intro W base args ds gs before hval hW _ _ _ hL _ _
  exact encodes_contract D enc W base args ds gs before hval hW hL

theorem encodes_said : Rows.CkptEncodesSaid :=
  OpenClaim.holds_of_cond 4 Tryd.f4 rfl rfl rfl rfl rfl rfl rfl ⟨rfl, rfl, rfl, rfl, rfl⟩ rfl rfl rfl rfl rfl (by kernel_rfl) Tryd.func4 (by kernel_rfl)
    (of_decide_eq_true (by kernel_rfl)) (by unfold Func.isWrapper; first | (rw [if_pos (by decide +kernel)]; kernel_rfl) | (rw [if_neg (by decide +kernel)]; exact ⟨rfl, rfl⟩))
    (fun os started D enc _ F => by rw [OpenClaim.pre_eq_preRow]; exact encodes_lifted os started D enc F)

theorem encodes_plain (f : FuncId) (fn : Func) (hf : Tryd.pinned.checked.prog.funcNamed "pith/pithlaw18.CkptEncodes" = some f) (hfn : Tryd.pinned.checked.prog.funcs[f]? = some fn) :
    false = Tryd.pinned.checked.prog.looks [] ∧ ∀ (j : Nat) t, fn.params[j]? = some t → Tryd.pinned.checked.prog.wantsStandIn t = false := by
  obtain rfl : f = 4 := Option.some.inj ((show Tryd.prog.funcNamed "pith/pithlaw18.CkptEncodes" = some 4 by kernel_rfl).symm.trans hf) |>.symm
  obtain rfl : fn = Tryd.f4 := (Option.some.inj (Tryd.func4.symm.trans hfn)).symm
  refine ⟨by kernel_rfl, fun j t ht => ?_⟩
  rw [Tryd.params4] at ht
  have hm : t ∈ [3, 28] := by simpa using Array.mem_of_getElem? ht
  have hall : ([3, 28].all fun u => !Tryd.prog.wantsStandIn u) = true := by kernel_rfl
  exact (show Tryd.prog.wantsStandIn t = false by simpa using List.all_eq_true.1 hall t hm)

theorem encodes_card : Rows.CkptEncodesCardSaid :=
  Claim7.holds_tied_plain_at .later [] _ _ _ _ encodes_said (fun _ h => by cases h) (by kernel_rfl) (fun _ h => by cases h) ckptEncodes_row_tie rfl ⟨rfl, rfl⟩ (by kernel_rfl) rfl encodes_plain (by kernel_rfl)
end Go.Proofs.YtbdclcdoiabapaaDoor
