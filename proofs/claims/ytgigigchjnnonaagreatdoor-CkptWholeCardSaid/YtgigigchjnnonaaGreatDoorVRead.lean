/- ckpt.read: the four numbers of a head of sixteen bytes. -/
import Derived.Test.YtgigigchjnnonaaGreatDoorVEnc
set_option linter.unusedSimpArgs false
set_option linter.unusedVariables false
set_option maxRecDepth 20000
namespace Go.Proofs.YtgigigchjnnonaaGreatDoor
open Go Go.V

/-- Four bytes, the highest first. -/
def be (xs : List Int) (i : Nat) : Int := xs.getD i 0 * 16777216 + xs.getD (i + 1) 0 * 65536 + xs.getD (i + 2) 0 * 256 + xs.getD (i + 3) 0
def nums (xs : List Int) (j : Nat) : Array Value := ((List.range 4).map fun i => Value.int .i64 (if i < j then be xs (4 * i) else 0)).toArray

theorem nums_step {xs : List Int} {j : Nat} (hj : j < 4) : cput (nums xs j) j [Value.int .i64 (be xs (4 * j))] = nums xs (j + 1) := by
  have : j = 0 ∨ j = 1 ∨ j = 2 ∨ j = 3 := by omega
  rcases this with rfl | rfl | rfl | rfl <;> rfl
theorem nums_size {xs : List Int} {j : Nat} : (nums xs j).size = 4 := rfl
theorem be_val {a b c d : Int} (ha : 0 ≤ a ∧ a < 256) (hb : 0 ≤ b ∧ b < 256) (hc : 0 ≤ c ∧ c < 256) (hd : 0 ≤ d ∧ d < 256) :
    IntKind.i64.wrap (IntKind.i64.wrap (IntKind.i64.wrap (ishl .i64 (IntKind.i64.wrap a) 24 + ishl .i64 (IntKind.i64.wrap b) 16) + ishl .i64 (IntKind.i64.wrap c) 8) + IntKind.i64.wrap d) = a * 16777216 + b * 65536 + c * 256 + d := by
  have k1 : ∀ {x : Int}, (0 ≤ x ∧ x < 256) → IntKind.i64.wrap x = x := fun h => w64_id (by omega) (by omega)
  rw [k1 ha, k1 hb, k1 hc, k1 hd]
  have s1 : ishl .i64 a 24 = a * 16777216 := by
    rw [ishl_eq (by omega) (by decide)]
    show IntKind.i64.wrap (a * 16777216) = _
    exact w64_id (by omega) (by omega)
  have s2 : ishl .i64 b 16 = b * 65536 := by
    rw [ishl_eq (by omega) (by decide)]
    show IntKind.i64.wrap (b * 65536) = _
    exact w64_id (by omega) (by omega)
  have s3 : ishl .i64 c 8 = c * 256 := by
    rw [ishl_eq (by omega) (by decide)]
    show IntKind.i64.wrap (c * 256) = _
    exact w64_id (by omega) (by omega)
  rw [s1, s2, s3, w64_id (n := a * 16777216 + b * 65536) (by omega) (by omega), w64_id (n := a * 16777216 + b * 65536 + c * 256) (by omega) (by omega), w64_id (by omega) (by omega)]
set_option maxHeartbeats 800000 in
set_option maxRecDepth 20000 in
theorem F38 (v : Value) (xs : List Int) (H : Heap) (hv : Ints H 5 .u8 v xs) (hw : Byt xs) :
    Fun Tryz.prog 38 #[v] H (fun r H' => Ext H H' ∧ r = .tuple #[.agg (nums xs (if xs.length = 16 then 4 else 0)), .bool (decide (xs.length = 16))]) := by
  obtain ⟨ad, cap, rfl⟩ := hv.form
  refine fun_of mixed (args := [_]) Tryz.func38 Tryz.ntmps38 b38 r38 rfl ?_
  by_cases h16 : xs.length = 16
  · have c1 : (xs.length : Int) = 16 := by omega
    simp only [go_sem, ↓reduceIte, Nat.reduceEqDiff, Nat.reduceLeDiff, Nat.reduceAdd, Nat.reduceMul, Nat.reduceSub, Nat.reduceBEq, Nat.reduceGT, Nat.reduceLT, Int.reduceLE, Int.reduceLT, Int.reduceNeg, reduceCtorEq, c1]
    refine LoopI.by mixed (fun ρ H' => ∃ j : Nat, ρ 0 = .slice ad xs.length cap ∧ ρ 2 = newP H ∧ ρ 4 = .pointer (some ⟨H.size + 1, 0, none⟩) ∧ ρ 11 = .int .i64 j ∧ j ≤ 4 ∧ Ext H H' ∧
      (∃ c, H'[H.size]? = some (.cells c 93) ∧ c.size = 4) ∧ H'[H.size + 1]? = some (.cells (nums xs j) 93)) (fun ρ _ => 4 - (iof (ρ 11)).toNat) ?_ ?_
    · refine ⟨0, by simp only [go_sem, ↓reduceIte, Nat.reduceEqDiff, Nat.reduceLeDiff, Nat.reduceAdd, Nat.reduceMul, Nat.reduceSub, Nat.reduceBEq, Nat.reduceGT, Nat.reduceLT, Int.reduceLE, Int.reduceLT, Int.reduceNeg, reduceCtorEq], by simp only [go_sem, ↓reduceIte, Nat.reduceEqDiff, Nat.reduceLeDiff, Nat.reduceAdd, Nat.reduceMul, Nat.reduceSub, Nat.reduceBEq, Nat.reduceGT, Nat.reduceLT, Int.reduceLE, Int.reduceLT, Int.reduceNeg, reduceCtorEq], by simp only [go_sem, ↓reduceIte, Nat.reduceEqDiff, Nat.reduceLeDiff, Nat.reduceAdd, Nat.reduceMul, Nat.reduceSub, Nat.reduceBEq, Nat.reduceGT, Nat.reduceLT, Int.reduceLE, Int.reduceLT, Int.reduceNeg, reduceCtorEq, Array.size_push], by simp only [go_sem, ↓reduceIte, Nat.reduceEqDiff, Nat.reduceLeDiff, Nat.reduceAdd, Nat.reduceMul, Nat.reduceSub, Nat.reduceBEq, Nat.reduceGT, Nat.reduceLT, Int.reduceLE, Int.reduceLT, Int.reduceNeg, reduceCtorEq]; rfl, by omega, (Ext.push _).trans ((Ext.push _).mono (by simp)), ⟨_, (push_old (by simp)).trans push_new, rfl⟩, ?_⟩
      rw [show H.size + 1 = (H.push (Obj.cells #[Value.int .i64 0, .int .i64 0, .int .i64 0, .int .i64 0] 93)).size by simp]
      exact push_new
    rintro ρ H' ⟨j, e0, e2, e4, e11, hj, hx, ⟨cc, hcc, hccs⟩, hn⟩
    by_cases hlt : j < 4
    · have c1 : (j : Int) < 4 := by omega
      have c0 : (0 : Int) ≤ j := by omega
      have a1 : IntKind.i64.wrap (4 * (j : Int)) = ((4 * j : Nat) : Int) := by rw [w64_id (by omega) (by omega)]; omega
      have a2 : IntKind.i64.wrap (((4 * j : Nat) : Int) + 4) = ((4 * j + 4 : Nat) : Int) := by rw [w64_id (by omega) (by omega)]; omega
      have a3 : (4 * j + 4 = 4 * j) = False := by simp
      have a4 : 4 * j + 4 - 4 * j = 4 := by omega
      obtain ⟨ab, ao, rfl⟩ := hv.at (i := 4 * j) (by omega)
      have hg := fun (k : Nat) (hk : 4 * j + k < 16) => (hv.ext hx).get (i := 4 * j + k) (by omega)
      have g0 := hg 0 (by omega)
      have g1 := hg 1 (by omega)
      have g2 := hg 2 (by omega)
      have g3 := hg 3 (by omega)
      simp only [← Nat.add_assoc, Nat.add_zero] at g0 g1 g2 g3
      simp only [go_sem, ↓reduceIte, Nat.reduceEqDiff, Nat.reduceLeDiff, Nat.reduceAdd, Nat.reduceMul, Nat.reduceSub, Nat.reduceBEq, Nat.reduceGT, Nat.reduceLT, Int.reduceLE, Int.reduceLT, Int.reduceNeg, reduceCtorEq, c38_L0, e0, e2, e4, e11, c0, c1, a1, a2, a3, a4, Int.toNat_natCast, g0, g1, g2, g3, Nat.add_zero, Int.toNat_zero, Int.toNat_one, show Int.toNat 2 = 2 from rfl, show Int.toNat 3 = 3 from rfl, w64_id (n := (j : Int) + 1) (by omega) (by omega)]
      rw [be_val (hw _ (mem_getD (by omega) _)) (hw _ (mem_getD (by omega) _)) (hw _ (mem_getD (by omega) _)) (hw _ (mem_getD (by omega) _))]
      have hlc := hv.lecap
      refine ⟨⟨⟨by omega, by omega⟩, ⟨by omega, by omega⟩, by omega, by omega⟩, by omega, by omega, by omega, by omega, by omega, rfl, hcan_of hn (by rw [nums_size]; omega), Hold.mk ⟨j + 1, by simp only [go_sem, ↓reduceIte, Nat.reduceEqDiff, Nat.reduceLeDiff, Nat.reduceAdd, Nat.reduceMul, Nat.reduceSub, Nat.reduceBEq, Nat.reduceGT, Nat.reduceLT, Int.reduceLE, Int.reduceLT, Int.reduceNeg, reduceCtorEq, e0], by simp only [go_sem, ↓reduceIte, Nat.reduceEqDiff, Nat.reduceLeDiff, Nat.reduceAdd, Nat.reduceMul, Nat.reduceSub, Nat.reduceBEq, Nat.reduceGT, Nat.reduceLT, Int.reduceLE, Int.reduceLT, Int.reduceNeg, reduceCtorEq, e2], by simp only [go_sem, ↓reduceIte, Nat.reduceEqDiff, Nat.reduceLeDiff, Nat.reduceAdd, Nat.reduceMul, Nat.reduceSub, Nat.reduceBEq, Nat.reduceGT, Nat.reduceLT, Int.reduceLE, Int.reduceLT, Int.reduceNeg, reduceCtorEq, e4], by simp only [go_sem, ↓reduceIte, Nat.reduceEqDiff, Nat.reduceLeDiff, Nat.reduceAdd, Nat.reduceMul, Nat.reduceSub, Nat.reduceBEq, Nat.reduceGT, Nat.reduceLT, Int.reduceLE, Int.reduceLT, Int.reduceNeg, reduceCtorEq]; rfl, by omega, hx.hput (by omega), ⟨cc, by rw [hput_other _ _ _ _ (by omega)]; exact hcc, hccs⟩, ?_⟩, by omega⟩
      rw [hput_same hn]
      exact congrArg (fun c => some (Obj.cells c 93)) (nums_step hlt)
    · have c1 : ¬ (j : Int) < 4 := by omega
      have hj4 : j = 4 := by omega
      subst hj4
      have q : ∀ k, k < 4 → hget H' (H.size + 1) k = some (.int .i64 (be xs (4 * k))) := by
        intro k hk
        unfold hget
        rw [hn]
        have : k = 0 ∨ k = 1 ∨ k = 2 ∨ k = 3 := by omega
        rcases this with rfl | rfl | rfl | rfl <;> rfl
      have q0 := q 0 (by omega)
      have q1 := q 1 (by omega)
      have q2 := q 2 (by omega)
      have q3 := q 3 (by omega)
      simp only [go_sem, ↓reduceIte, Nat.reduceEqDiff, Nat.reduceLeDiff, Nat.reduceAdd, Nat.reduceMul, Nat.reduceSub, Nat.reduceBEq, Nat.reduceGT, Nat.reduceLT, Int.reduceLE, Int.reduceLT, Int.reduceNeg, reduceCtorEq, c38_L0, e0, e2, e4, e11, c1, q0, q1, q2, q3]
      refine ⟨rfl, hcan_of hcc (by omega), ?_⟩
      simp only [loadV, ty93]
      refine ⟨_, hgets_put hcc (by simp [hccs]) rfl, hx.hput (Nat.le_refl _), ?_⟩
      simp only [h16]
      rfl
  · have c1 : ¬ (xs.length : Int) = 16 := by omega
    simp only [go_sem, ↓reduceIte, Nat.reduceEqDiff, Nat.reduceLeDiff, Nat.reduceAdd, Nat.reduceMul, Nat.reduceSub, Nat.reduceBEq, Nat.reduceGT, Nat.reduceLT, Int.reduceLE, Int.reduceLT, Int.reduceNeg, reduceCtorEq, c1]
    refine ⟨rfl, hcan_of ((push_old (by simp)).trans push_new) (by simp), ?_⟩
    simp only [loadV, ty93]
    refine ⟨_, hgets_put ((push_old (by simp)).trans push_new) (by simp) rfl, ((Ext.push _).trans ((Ext.push _).mono (by simp))).hput (Nat.le_refl _), ?_⟩
    simp only [h16]
    rfl
end Go.Proofs.YtgigigchjnnonaaGreatDoor
