/- runs.New, Wants, Left, Give. -/
import Derived.Test.YtcgejfmbhpmjfaaVHeap
set_option linter.unusedSimpArgs false
set_option linter.unusedVariables false
set_option maxRecDepth 20000
namespace Go.Proofs.Ytcgejfmbhpmjfaa
open Go Go.V
-- 26: pith/runs.New
-- 54: pith/runs.New$1
-- 37: (*pith/runs.Merger).Wants
-- 65: (*pith/runs.Merger).Wants$1
-- 64: slices.IndexFunc[[]pith/runs.source,pith/runs.source]
-- 38: (*pith/runs.Merger).Left
-- 35: (*pith/runs.Merger).Give
-- 48: pith/runs.rise
-- 12: pith/runs.Less
-- 63: (*pith/runs.heap[int]).push
-- 3: int
-- 63: []int
-- 24: pith/api.Pair
-- 22: []api.Pair
-- 86: runs.Merger
-- 46: *runs.Merger
-- 88: runs.source
-- 81: []runs.source

theorem hput_push1 {H : Heap} {z0 a : Value} {e : TypeId} : hput (H.push (.cells #[z0] e)) H.size 0 [a] = H.push (.cells #[a] e) := hput_push rfl
theorem hput_push5 {H : Heap} {z0 z1 z2 z3 z4 a b c d f : Value} {e : TypeId} : hput (H.push (.cells #[z0, z1, z2, z3, z4] e)) H.size 0 [a, b, c, d, f] = H.push (.cells #[a, b, c, d, f] e) := hput_push rfl
theorem hget_new1 {H : Heap} {a : Value} {e : TypeId} : hget (H.push (.cells #[a] e)) H.size 0 = some a := by rw [hget_cells push_new]; rfl
theorem hcan_new1 {H : Heap} {a : Value} {e : TypeId} : hcan (H.push (.cells #[a] e)) H.size 0 1 = True := eq_true (hcan_of push_new (by simp))
theorem hget_new5 {H : Heap} {a b c d f : Value} {e : TypeId} : hget (H.push (.cells #[a, b, c, d, f] e)) H.size 0 = some a := by rw [hget_cells push_new]; rfl
theorem MerH.getV {H : Heap} {F : Nat → Prop} {M Cb S : Nat} {lvs : List Value} {hv : Value} {ss : List Src} {hp : List Nat} (h : MerH H F M Cb S lvs hv ss hp) {i : Nat} (hi : i < ss.length) : ∃ a cap, hget H S (i * 5) = some (.slice a (sg ss i).l.length cap) := by
  obtain ⟨a, cap, e⟩ := h.getL hi
  exact ⟨a, cap, by rw [(h.getS hi).1, e]⟩
theorem F65 (a : Option Addr) (n cap : Nat) (u v : Value) (g e : Bool) (H : Heap) :
    Fun Try.prog 65 #[.agg #[.slice a n cap, u, v, .bool g, .bool e]] H (fun r H' => r = .bool (decide (n = 0) && !e) ∧ Ext H H') := by
  refine fun_of mixed (args := [_]) Try.func65 Try.ntmps65 b65 r65 rfl ?_
  by_cases h : n = 0
  · have c : (n : Int) = 0 := by omega
    simp only [go_sem, ↓reduceIte, Nat.reduceEqDiff, Nat.reduceLeDiff, Nat.reduceAdd, Nat.reduceMul, Nat.reduceSub, Nat.reduceBEq, Nat.reduceGT, Nat.reduceLT, Int.reduceLE, Int.reduceLT, Int.reduceNeg, reduceCtorEq, h, c, decide_true]
    cases e <;> simp [ext_push, ext_refl, Ext.push]
  · have c : ¬ (n : Int) = 0 := by omega
    simp only [go_sem, ↓reduceIte, Nat.reduceEqDiff, Nat.reduceLeDiff, Nat.reduceAdd, Nat.reduceMul, Nat.reduceSub, Nat.reduceBEq, Nat.reduceGT, Nat.reduceLT, Int.reduceLE, Int.reduceLT, Int.reduceNeg, reduceCtorEq, h, c, decide_false]
    simp [Ext.push]
theorem sg_get {ss : List Src} {i : Nat} (hi : i < ss.length) : sg ss i = ss[i] := by
  unfold sg; rw [List.getD_eq_getElem?_getD, List.getElem?_eq_getElem hi]; rfl
theorem wantsS_some {ss : List Src} {i : Nat} (hi : i < ss.length) (h : wanting (sg ss i) = true) (hj : ∀ j, j < i → wanting (sg ss j) = false) : wantsS ss = i := by
  unfold wantsS
  have : ss.findIdx? wanting = some i := by
    rw [List.findIdx?_eq_some_iff_getElem]
    refine ⟨hi, by rw [← sg_get hi]; exact h, fun j hji => ?_⟩
    rw [← sg_get (show j < ss.length by omega), hj j hji]
    simp
  rw [this]
theorem wantsS_none {ss : List Src} (hj : ∀ j, j < ss.length → wanting (sg ss j) = false) : wantsS ss = -1 := by
  unfold wantsS
  have : ss.findIdx? wanting = none := by
    rw [List.findIdx?_eq_none_iff]
    intro x hx
    obtain ⟨j, hj', rfl⟩ := List.mem_iff_getElem.1 hx
    rw [← sg_get hj']
    exact hj j hj'
  rw [this]
theorem F64 {H : Heap} {F : Nat → Prop} {M Cb S : Nat} {lvs : List Value} {hv : Value} {ss : List Src} {hp : List Nat} (h : MerH H F M Cb S lvs hv ss hp) :
    Fun Try.prog 64 #[.slice (some ⟨S, 0, none⟩) ss.length ss.length, .func (.func 65) #[] #[]] H (fun r H' => r = .int .i64 (wantsS ss) ∧ Ext H H') := by
  refine fun_of mixed (args := [_, _]) Try.func64 Try.ntmps64 b64 r64 rfl ?_
  have hk := h.k64
  simp only [go_sem, ↓reduceIte, Nat.reduceEqDiff, Nat.reduceLeDiff, Nat.reduceAdd, Nat.reduceMul, Nat.reduceSub, Nat.reduceBEq, Nat.reduceGT, Nat.reduceLT, Int.reduceLE, Int.reduceLT, Int.reduceNeg, reduceCtorEq]
  refine LoopI.by mixed (fun ρ H' => ∃ i : Nat, ρ 0 = .slice (some ⟨S, 0, none⟩) ss.length ss.length ∧ ρ 1 = .func (.func 65) #[] #[] ∧ ρ 7 = .int .i64 ss.length ∧ ρ 8 = .int .i64 i ∧ i ≤ ss.length ∧ (∀ j, j < i → wanting (sg ss j) = false) ∧ Ext H H') (fun ρ _ => ss.length - (iof (ρ 8)).toNat) ?_ ?_
  · exact ⟨0, by simp only [go_sem, ↓reduceIte, Nat.reduceEqDiff, Nat.reduceLeDiff, Nat.reduceAdd, Nat.reduceMul, Nat.reduceSub, Nat.reduceBEq, Nat.reduceGT, Nat.reduceLT, Int.reduceLE, Int.reduceLT, Int.reduceNeg, reduceCtorEq], by simp only [go_sem, ↓reduceIte, Nat.reduceEqDiff, Nat.reduceLeDiff, Nat.reduceAdd, Nat.reduceMul, Nat.reduceSub, Nat.reduceBEq, Nat.reduceGT, Nat.reduceLT, Int.reduceLE, Int.reduceLT, Int.reduceNeg, reduceCtorEq], by simp only [go_sem, ↓reduceIte, Nat.reduceEqDiff, Nat.reduceLeDiff, Nat.reduceAdd, Nat.reduceMul, Nat.reduceSub, Nat.reduceBEq, Nat.reduceGT, Nat.reduceLT, Int.reduceLE, Int.reduceLT, Int.reduceNeg, reduceCtorEq], by simp only [go_sem, ↓reduceIte, Nat.reduceEqDiff, Nat.reduceLeDiff, Nat.reduceAdd, Nat.reduceMul, Nat.reduceSub, Nat.reduceBEq, Nat.reduceGT, Nat.reduceLT, Int.reduceLE, Int.reduceLT, Int.reduceNeg, reduceCtorEq]; rfl, by omega, by omega, Upto.refl _ _⟩
  rintro ρ H1 ⟨i, e0, e1, e7, e8, hi, hj, hx⟩
  by_cases hlt : i < ss.length
  · have c1 : (i : Int) < ss.length := by omega
    have z0 : (0 : Int) ≤ i := by omega
    have mer := h.ext hx
    obtain ⟨a, cap, g0⟩ := mer.getV hlt
    obtain ⟨_, g1, g2, g3, g4⟩ := mer.getS hlt
    simp only [go_sem, ↓reduceIte, Nat.reduceEqDiff, Nat.reduceLeDiff, Nat.reduceAdd, Nat.reduceMul, Nat.reduceSub, Nat.reduceBEq, Nat.reduceGT, Nat.reduceLT, Int.reduceLE, Int.reduceLT, Int.reduceNeg, reduceCtorEq, c64_L0, e0, e1, e7, e8, c1, z0, g0, g1, g2, g3, g4, Int.toNat_natCast, Option.bind_some]
    refine ⟨by kernel_rfl, ?_⟩
    refine FunI.by (F65 _ _ _ _ _ _ _ H1) ?_
    rintro _ H2 ⟨rfl, hx2⟩
    have hx3 := hx.trans (hx2.mono hx.size)
    have hw : (decide ((sg ss i).l.length = 0) && !(sg ss i).ended) = wanting (sg ss i) := rfl
    cases hwi : wanting (sg ss i) with
    | true =>
      simp only [go_sem, ↓reduceIte, Nat.reduceEqDiff, Nat.reduceLeDiff, Nat.reduceAdd, Nat.reduceMul, Nat.reduceSub, Nat.reduceBEq, Nat.reduceGT, Nat.reduceLT, Int.reduceLE, Int.reduceLT, Int.reduceNeg, reduceCtorEq, hw, hwi]
      rw [wantsS_some hlt hwi hj]
      exact ⟨rfl, hx3⟩
    | false =>
      simp only [go_sem, ↓reduceIte, Nat.reduceEqDiff, Nat.reduceLeDiff, Nat.reduceAdd, Nat.reduceMul, Nat.reduceSub, Nat.reduceBEq, Nat.reduceGT, Nat.reduceLT, Int.reduceLE, Int.reduceLT, Int.reduceNeg, reduceCtorEq, hw, hwi, e8, w64_id (n := (i : Int) + 1) (by omega) (by omega)]
      refine ⟨Hold.mk ⟨i + 1, by simp only [go_sem, ↓reduceIte, Nat.reduceEqDiff, Nat.reduceLeDiff, Nat.reduceAdd, Nat.reduceMul, Nat.reduceSub, Nat.reduceBEq, Nat.reduceGT, Nat.reduceLT, Int.reduceLE, Int.reduceLT, Int.reduceNeg, reduceCtorEq, e0], by simp only [go_sem, ↓reduceIte, Nat.reduceEqDiff, Nat.reduceLeDiff, Nat.reduceAdd, Nat.reduceMul, Nat.reduceSub, Nat.reduceBEq, Nat.reduceGT, Nat.reduceLT, Int.reduceLE, Int.reduceLT, Int.reduceNeg, reduceCtorEq, e1], by simp only [go_sem, ↓reduceIte, Nat.reduceEqDiff, Nat.reduceLeDiff, Nat.reduceAdd, Nat.reduceMul, Nat.reduceSub, Nat.reduceBEq, Nat.reduceGT, Nat.reduceLT, Int.reduceLE, Int.reduceLT, Int.reduceNeg, reduceCtorEq, e7], by simp only [go_sem, ↓reduceIte, Nat.reduceEqDiff, Nat.reduceLeDiff, Nat.reduceAdd, Nat.reduceMul, Nat.reduceSub, Nat.reduceBEq, Nat.reduceGT, Nat.reduceLT, Int.reduceLE, Int.reduceLT, Int.reduceNeg, reduceCtorEq]; rfl, by omega, fun j hj' => ?_, hx3⟩, by omega⟩
      by_cases hji : j = i
      · rw [hji]; exact hwi
      · exact hj j (by omega)
  · have c1 : ¬ (i : Int) < ss.length := by omega
    simp only [go_sem, ↓reduceIte, Nat.reduceEqDiff, Nat.reduceLeDiff, Nat.reduceAdd, Nat.reduceMul, Nat.reduceSub, Nat.reduceBEq, Nat.reduceGT, Nat.reduceLT, Int.reduceLE, Int.reduceLT, Int.reduceNeg, reduceCtorEq, c64_L0, e0, e1, e7, e8, c1]
    rw [wantsS_none fun j h => hj j (by omega)]
    exact ⟨rfl, hx⟩
theorem F37 {H : Heap} {F : Nat → Prop} {M Cb S : Nat} {lvs : List Value} {hv : Value} {ss : List Src} {hp : List Nat} (h : MerH H F M Cb S lvs hv ss hp) :
    Fun Try.prog 37 #[.pointer (some ⟨M, 0, none⟩)] H (fun r H' => r = .int .i64 (wantsS ss) ∧ Ext H H') := by
  refine fun_of mixed (args := [_]) Try.func37 Try.ntmps37 b37 r37 rfl ?_
  obtain ⟨m0, _⟩ := h.getM
  simp only [go_sem, ↓reduceIte, Nat.reduceEqDiff, Nat.reduceLeDiff, Nat.reduceAdd, Nat.reduceMul, Nat.reduceSub, Nat.reduceBEq, Nat.reduceGT, Nat.reduceLT, Int.reduceLE, Int.reduceLT, Int.reduceNeg, reduceCtorEq, m0]
  refine FunI.by (F64 h) ?_
  rintro _ H2 ⟨rfl, hx2⟩
  simp only [go_sem, ↓reduceIte, Nat.reduceEqDiff, Nat.reduceLeDiff, Nat.reduceAdd, Nat.reduceMul, Nat.reduceSub, Nat.reduceBEq, Nat.reduceGT, Nat.reduceLT, Int.reduceLE, Int.reduceLT, Int.reduceNeg, reduceCtorEq]
  exact hx2
/-- How many arcs the first i sources hold. -/
def sumL (ss : List Src) (i : Nat) : Nat := ((ss.take i).map fun s => s.l.length).sum
theorem sumL_succ {ss : List Src} {i : Nat} (hi : i < ss.length) : sumL ss (i + 1) = sumL ss i + (sg ss i).l.length := by
  unfold sumL
  rw [take_succ_getD hi default, List.map_append, List.sum_append]
  simp [sg]
theorem sumL_all (ss : List Src) : ((sumL ss ss.length : Nat) : Int) = leftS ss := by unfold sumL leftS; rw [List.take_length]
theorem sumL_le {ss : List Src} {n : Nat} (h : ∀ i, i < ss.length → (sg ss i).l.length ≤ n) : ∀ i, i ≤ ss.length → sumL ss i ≤ i * n := by
  intro i
  induction i with
  | zero => intro _; simp [sumL]
  | succ i ih =>
    intro hi
    rw [sumL_succ (by omega), Nat.succ_mul]
    have := ih (by omega)
    have := h i (by omega)
    omega
theorem F38 {H : Heap} {F : Nat → Prop} {M Cb S : Nat} {lvs : List Value} {hv : Value} {ss : List Src} {hp : List Nat} (h : MerH H F M Cb S lvs hv ss hp) (hb : ∀ i, i < ss.length → (sg ss i).l.length ≤ 8796093020000) :
    Fun Try.prog 38 #[.pointer (some ⟨M, 0, none⟩)] H (fun r H' => r = .int .i64 (leftS ss) ∧ Ext H H') := by
  refine fun_of mixed (args := [_]) Try.func38 Try.ntmps38 b38 r38 rfl ?_
  obtain ⟨m0, _⟩ := h.getM
  have hk := h.k64
  simp only [go_sem, ↓reduceIte, Nat.reduceEqDiff, Nat.reduceLeDiff, Nat.reduceAdd, Nat.reduceMul, Nat.reduceSub, Nat.reduceBEq, Nat.reduceGT, Nat.reduceLT, Int.reduceLE, Int.reduceLT, Int.reduceNeg, reduceCtorEq, m0]
  refine LoopI.by mixed (fun ρ H' => ∃ i : Nat, ρ 3 = .int .i64 (sumL ss i : Nat) ∧ ρ 9 = .slice (some ⟨S, 0, none⟩) ss.length ss.length ∧ ρ 10 = .int .i64 ss.length ∧ ρ 11 = .int .i64 i ∧ i ≤ ss.length ∧ Ext H H') (fun ρ _ => ss.length - (iof (ρ 11)).toNat) ?_ ?_
  · exact ⟨0, by simp only [go_sem, ↓reduceIte, Nat.reduceEqDiff, Nat.reduceLeDiff, Nat.reduceAdd, Nat.reduceMul, Nat.reduceSub, Nat.reduceBEq, Nat.reduceGT, Nat.reduceLT, Int.reduceLE, Int.reduceLT, Int.reduceNeg, reduceCtorEq]; rfl, by simp only [go_sem, ↓reduceIte, Nat.reduceEqDiff, Nat.reduceLeDiff, Nat.reduceAdd, Nat.reduceMul, Nat.reduceSub, Nat.reduceBEq, Nat.reduceGT, Nat.reduceLT, Int.reduceLE, Int.reduceLT, Int.reduceNeg, reduceCtorEq], by simp only [go_sem, ↓reduceIte, Nat.reduceEqDiff, Nat.reduceLeDiff, Nat.reduceAdd, Nat.reduceMul, Nat.reduceSub, Nat.reduceBEq, Nat.reduceGT, Nat.reduceLT, Int.reduceLE, Int.reduceLT, Int.reduceNeg, reduceCtorEq], by simp only [go_sem, ↓reduceIte, Nat.reduceEqDiff, Nat.reduceLeDiff, Nat.reduceAdd, Nat.reduceMul, Nat.reduceSub, Nat.reduceBEq, Nat.reduceGT, Nat.reduceLT, Int.reduceLE, Int.reduceLT, Int.reduceNeg, reduceCtorEq]; rfl, by omega, Upto.refl _ _⟩
  rintro ρ H1 ⟨i, e3, e9, e10, e11, hi, hx⟩
  by_cases hlt : i < ss.length
  · have c1 : (i : Int) < ss.length := by omega
    have z0 : (0 : Int) ≤ i := by omega
    have mer := h.ext hx
    obtain ⟨a, cap, g0⟩ := mer.getV hlt
    obtain ⟨_, g1, g2, g3, g4⟩ := mer.getS hlt
    simp only [go_sem, ↓reduceIte, Nat.reduceEqDiff, Nat.reduceLeDiff, Nat.reduceAdd, Nat.reduceMul, Nat.reduceSub, Nat.reduceBEq, Nat.reduceGT, Nat.reduceLT, Int.reduceLE, Int.reduceLT, Int.reduceNeg, reduceCtorEq, c38_L0, e3, e9, e10, e11, c1, z0, g0, g1, g2, g3, g4, Int.toNat_natCast, Option.bind_some]
    refine ⟨rfl, hcan_of push_new (by simp), ?_⟩
    rw [hput_push5]
    have hs := sumL_le hb (i + 1) (by omega)
    rw [sumL_succ hlt] at hs
    have hm : (i + 1) * 8796093020000 ≤ 64 * 8796093020000 := Nat.mul_le_mul_right _ (by omega)
    have w1 : IntKind.i64.wrap ((sumL ss i : Int) + (sg ss i).l.length) = ((sumL ss (i + 1) : Nat) : Int) := by
      rw [sumL_succ hlt, w64_id (by omega) (by omega)]; omega
    simp only [go_sem, ↓reduceIte, Nat.reduceEqDiff, Nat.reduceLeDiff, Nat.reduceAdd, Nat.reduceMul, Nat.reduceSub, Nat.reduceBEq, Nat.reduceGT, Nat.reduceLT, Int.reduceLE, Int.reduceLT, Int.reduceNeg, reduceCtorEq, hget_new5, e3, e11, w1, w64_id (n := (i : Int) + 1) (by omega) (by omega)]
    exact ⟨Hold.mk ⟨i + 1, by simp only [go_sem, ↓reduceIte, Nat.reduceEqDiff, Nat.reduceLeDiff, Nat.reduceAdd, Nat.reduceMul, Nat.reduceSub, Nat.reduceBEq, Nat.reduceGT, Nat.reduceLT, Int.reduceLE, Int.reduceLT, Int.reduceNeg, reduceCtorEq], by simp only [go_sem, ↓reduceIte, Nat.reduceEqDiff, Nat.reduceLeDiff, Nat.reduceAdd, Nat.reduceMul, Nat.reduceSub, Nat.reduceBEq, Nat.reduceGT, Nat.reduceLT, Int.reduceLE, Int.reduceLT, Int.reduceNeg, reduceCtorEq, e9], by simp only [go_sem, ↓reduceIte, Nat.reduceEqDiff, Nat.reduceLeDiff, Nat.reduceAdd, Nat.reduceMul, Nat.reduceSub, Nat.reduceBEq, Nat.reduceGT, Nat.reduceLT, Int.reduceLE, Int.reduceLT, Int.reduceNeg, reduceCtorEq, e10], by simp only [go_sem, ↓reduceIte, Nat.reduceEqDiff, Nat.reduceLeDiff, Nat.reduceAdd, Nat.reduceMul, Nat.reduceSub, Nat.reduceBEq, Nat.reduceGT, Nat.reduceLT, Int.reduceLE, Int.reduceLT, Int.reduceNeg, reduceCtorEq]; rfl, by omega, hx.trans ((Ext.push _).mono hx.size)⟩, by omega⟩
  · have c1 : ¬ (i : Int) < ss.length := by omega
    simp only [go_sem, ↓reduceIte, Nat.reduceEqDiff, Nat.reduceLeDiff, Nat.reduceAdd, Nat.reduceMul, Nat.reduceSub, Nat.reduceBEq, Nat.reduceGT, Nat.reduceLT, Int.reduceLE, Int.reduceLT, Int.reduceNeg, reduceCtorEq, c38_L0, e3, e9, e10, e11, c1]
    have : i = ss.length := by omega
    subst this
    rw [sumL_all]
    exact ⟨rfl, hx⟩
theorem F26_none (k : Int) (H : Heap) (hk : k < 0 ∨ 64 < k) : Fun Try.prog 26 #[.int .i64 k] H (fun r H' => r = .pointer none ∧ H = H') := by
  refine fun_of mixed (args := [_]) Try.func26 Try.ntmps26 b26 r26 rfl ?_
  rcases hk with hk | hk
  · simp only [go_sem, ↓reduceIte, Nat.reduceEqDiff, Nat.reduceLeDiff, Nat.reduceAdd, Nat.reduceMul, Nat.reduceSub, Nat.reduceBEq, Nat.reduceGT, Nat.reduceLT, Int.reduceLE, Int.reduceLT, Int.reduceNeg, reduceCtorEq, hk]
  · have c : ¬ k < 0 := by omega
    simp only [go_sem, ↓reduceIte, Nat.reduceEqDiff, Nat.reduceLeDiff, Nat.reduceAdd, Nat.reduceMul, Nat.reduceSub, Nat.reduceBEq, Nat.reduceGT, Nat.reduceLT, Int.reduceLE, Int.reduceLT, Int.reduceNeg, reduceCtorEq, hk, c]
theorem F26 (k : Nat) (H : Heap) (hk : k ≤ 64) : Fun Try.prog 26 #[.int .i64 k] H (fun r H' => ∃ F' M Cb S lvs hv, r = .pointer (some ⟨M, 0, none⟩) ∧ MerH H' F' M Cb S lvs hv (List.replicate k default) [] ∧ (∀ b, F' b → H.size ≤ b) ∧ Ext H H') := by
  refine fun_of mixed (args := [_]) Try.func26 Try.ntmps26 b26 r26 rfl ?_
  have c1 : ¬ (k : Int) < 0 := by omega
  have c2 : ¬ (64 : Int) < k := by omega
  have k0 : (0 : Int) ≤ k := by omega
  have k1 : (48 : Nat) * (k : Int) ≤ 281474976710656 := by omega
  have k2 : (k : Int) ≤ 9223372036854775807 := by omega
  simp only [go_sem, ↓reduceIte, Nat.reduceEqDiff, Nat.reduceLeDiff, Nat.reduceAdd, Nat.reduceMul, Nat.reduceSub, Nat.reduceBEq, Nat.reduceGT, Nat.reduceLT, Int.reduceLE, Int.reduceLT, Int.reduceNeg, reduceCtorEq, c1, c2, k0, k1, k2, Int.le_refl, hput_push1, hget_new1, hcan_new1, List.all_cons, List.all_nil, Value.oneCell', Bool.and_true]
  generalize hz : zrow (.agg #[.slice none 0 0, .int .i64 0, .int .i64 0, .bool false, .bool false]) (k * 5) = z
  generalize hA : Array.push H (Obj.cells z 88) = A
  generalize hB : Array.push A (Obj.cells #[Value.slice (some ⟨H.size, 0, none⟩) k k, .slice none 0 0, .nilFunc] 86) = B
  generalize hC : Array.push B (Obj.cells #[Value.pointer (some ⟨A.size, 0, none⟩)] 46) = C
  have sA : A.size = H.size + 1 := by rw [← hA]; simp
  have sB : B.size = H.size + 2 := by rw [← hB]; simp; omega
  have hM : C[A.size]? = some (.cells #[.slice (some ⟨H.size, 0, none⟩) k k, .slice none 0 0, .nilFunc] 86) := by
    rw [← hC, push_old (by omega), ← hB, push_new]
  have hCb : C[B.size]? = some (.cells #[.pointer (some ⟨A.size, 0, none⟩)] 46) := by rw [← hC, push_new]
  have hS : C[H.size]? = some (.cells z 88) := by rw [← hC, push_old (by omega), ← hB, push_old (by omega), ← hA, push_new]
  have hx : Ext H C := by
    rw [← hC, ← hB, ← hA]
    exact (((Ext.push _).trans ((Ext.push _).mono (by simp))).trans ((Ext.push _).mono (by simp; omega)))
  refine ⟨hcan_of hM (by simp), ?_⟩
  have ko : ∀ b, b ≠ A.size → (hput C A.size 2 [Value.func (.func 54) #[] #[.pointer (some ⟨B.size, 0, none⟩)]])[b]? = C[b]? := fun b hb => hput_other _ _ _ _ hb
  have hM2 := hput_same (o := 2) (vs := [Value.func (.func 54) #[] #[.pointer (some ⟨B.size, 0, none⟩)]]) hM
  have hx2 : Ext H (hput C A.size 2 [Value.func (.func 54) #[] #[.pointer (some ⟨B.size, 0, none⟩)]]) := hx.hput (by omega)
  generalize hput C A.size 2 [Value.func (.func 54) #[] #[.pointer (some ⟨B.size, 0, none⟩)]] = D at *
  have hD : D[B.size]? = some (.cells #[.pointer (some ⟨A.size, 0, none⟩)] 46) := by rw [ko _ (by omega)]; exact hCb
  have hDS : D[H.size]? = some (.cells z 88) := by rw [ko _ (by omega)]; exact hS
  have gD : hget D B.size 0 = some (.pointer (some ⟨A.size, 0, none⟩)) := by rw [hget_cells hD]; rfl
  simp only [go_sem, ↓reduceIte, Nat.reduceEqDiff, Nat.reduceLeDiff, Nat.reduceAdd, Nat.reduceMul, Nat.reduceSub, Nat.reduceBEq, Nat.reduceGT, Nat.reduceLT, Int.reduceLE, Int.reduceLT, Int.reduceNeg, reduceCtorEq, gD]
  have sgr : ∀ i, i < k → sg (List.replicate k default) i = default := fun i hi => by
    unfold sg
    rw [List.getD_eq_getElem?_getD, List.getElem?_replicate, if_pos hi]; rfl
  have lvr : ∀ i, i < k → (List.replicate k (Value.slice none 0 0)).getD i undef = .slice none 0 0 := fun i hi => by
    rw [List.getD_eq_getElem?_getD, List.getElem?_replicate, if_pos hi]; rfl
  refine ⟨fun b => b = A.size ∨ b = B.size ∨ b = H.size, A.size, B.size, H.size, List.replicate k (.slice none 0 0), .slice none 0 0, rfl, ⟨?_, hD, ⟨z, hDS, ?_⟩, ?_, ?_, ?_, .inl rfl, .inr (.inl rfl), .inr (.inr rfl), ?_, ?_, by simpa using hk⟩, ?_, hx2⟩
  · rw [hM2, List.length_replicate]; rfl
  · refine ⟨by rw [← hz, zrow_size, List.length_replicate], by simp, fun i j hi hj => ?_⟩
    rw [List.length_replicate] at hi
    rw [sgr i hi, lvr i hi, ← hz, zrow_get (by omega)]
    have e : (i * 5 + j) % (Value.agg #[.slice none 0 0, .int .i64 0, .int .i64 0, .bool false, .bool false]).cells.size = j := by
      show (i * 5 + j) % 5 = j
      omega
    rw [e]
    match j, hj with
    | 0, _ => rfl
    | 1, _ => rfl
    | 2, _ => rfl
    | 3, _ => rfl
    | 4, _ => rfl
  · intro i hi
    rw [List.length_replicate] at hi
    rw [sgr i hi, lvr i hi]
    exact Own2.nil
  · exact Own.nil
  · intro i j hi
    rw [List.length_replicate] at hi
    rw [lvr i hi]
    exact fun _ _ => .inl rfl
  · intro i b hi
    rw [List.length_replicate] at hi
    rw [lvr i hi]
    intro h; cases h
  · intro b h; cases h
  · rintro b (h | h | h) <;> omega
end Go.Proofs.Ytcgejfmbhpmjfaa
