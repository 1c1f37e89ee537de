/- Two values of type [4]int are unequal just if their numbers are. -/
import Derived.Test.YtgigigchjnnonaaDoorVDirty
import Derived.Stop.BytesEq
import Derived.Laws.StructEq
import Derived.KernelRfl
set_option linter.unusedSimpArgs false
set_option linter.unusedVariables false
set_option maxRecDepth 20000
namespace Go.Proofs.YtgigigchjnnonaaDoor
open Go Go.V
-- 89: pith/ckpt.numbers
-- 3: int

theorem all_range_eq' : ∀ (xs ys : List Int), xs.length = ys.length → ((List.range xs.length).all fun i => xs.getD i 0 == ys.getD i 0) = (xs == ys)
  | [], [], _ => rfl
  | x :: xs, y :: ys, h => by
    have ih := all_range_eq' xs ys (by simpa using h)
    rw [List.length_cons, List.range_succ_eq_map, List.all_cons, List.all_map]
    simp only [Function.comp_def, List.getD_cons_succ, List.getD_cons_zero]
    rw [ih]
    rfl
  | [], _ :: _, h => by simp at h
  | _ :: _, [], h => by simp at h
theorem run_equalIn_i64 {P : Program} (w : World) (d : Nat) (t e : TypeId) (n : Nat) (ht : P.underlying t = some (.array n e)) (he : P.underlying e = some (.int .i64)) (hsz : ∀ w, (sizeOf e).run P w = .ok 1 w)
    (xs ys : List Int) (hx : xs.length = n) (hy : ys.length = n) :
    (Op.equalIn (d + 2) t (.agg (xs.map (Value.int .i64)).toArray) (.agg (ys.map (Value.int .i64)).toArray)).run P w = .ok (xs == ys) w := by
  rw [← all_range_eq' xs ys (hx.trans hy.symm), hx, List.range_eq_range', Op.equalIn]
  simp only [Sem.run_bind, run_underlying ht, Result.andThen_ok, hsz, Std.Legacy.Range.forIn_eq_forIn_range', Std.Legacy.Range.size, Nat.sub_zero, Nat.add_sub_cancel, Nat.div_one]
  have hl : ∀ i ∈ List.range' 0 n 1, i < n := fun i hi => by simpa using (List.mem_range'_1.1 hi).2
  generalize List.range' 0 n 1 = l at hl ⊢
  induction l with
  | nil => simp
  | cons i l ih =>
    have hi : i < n := hl i (by simp)
    have px : (part e (xs.map (Value.int .i64)).toArray (i * 1)).run P w = .ok (Value.int .i64 (xs.getD i 0)) w := by
      simp [part, isAgg, run_underlying he, List.getD, List.getElem?_eq_getElem (show i < xs.length by omega)]
    have py : (part e (ys.map (Value.int .i64)).toArray (i * 1)).run P w = .ok (Value.int .i64 (ys.getD i 0)) w := by
      simp [part, isAgg, run_underlying he, List.getD, List.getElem?_eq_getElem (show i < ys.length by omega)]
    have pe : (Op.equalIn (d + 1) e (Value.int .i64 (xs.getD i 0)) (Value.int .i64 (ys.getD i 0))).run P w = .ok (xs.getD i 0 == ys.getD i 0) w := by
      rw [run_equalIn_int w d e .i64 .i64 _ _ he]
    simp only [List.forIn_cons, Sem.run_bind, px, py, pe, Result.andThen_ok, List.all_cons]
    cases hb : (xs.getD i 0 == ys.getD i 0)
    · simp
    · simpa using ih (fun j hj => hl j (by simp [hj]))
theorem ne_numbers (x y : Operand) (xs ys : List Int) (H : Heap) (hx : xs.length = 4) (hy : ys.length = 4) :
    RunS Tryd.prog (sBinOp .neq 89 x y (.agg (xs.map (Value.int .i64)).toArray) (.agg (ys.map (Value.int .i64)).toArray)) H (fun v H' => v = .bool (decide (xs ≠ ys)) ∧ H = H') := by
  intro w hw
  have hu : Tryd.prog.underlying 89 = some (.array 4 3) := by kernel_rfl
  have he : Tryd.prog.underlying 3 = some (.int .i64) := by kernel_rfl
  have hg : Tryd.prog.eqGuardType Tryd.prog.depth 89 = false := by kernel_rfl
  refine ⟨_, w, ?_, Same.refl _, rfl, hw.symm⟩
  unfold sBinOp
  rw [Sem.run_bind, run_eqGuard_agg _ _ _ _ _ _ _ hg, Result.andThen_ok, run_neq_struct, run_equalIn_i64 w 9998 89 3 4 hu he ((tyOf_ok Tryd.prog).size ty3) xs ys hx hy, Result.andThen_ok]
  congr 2
  by_cases h : xs = ys <;> simp [h]
end Go.Proofs.YtgigigchjnnonaaDoor
