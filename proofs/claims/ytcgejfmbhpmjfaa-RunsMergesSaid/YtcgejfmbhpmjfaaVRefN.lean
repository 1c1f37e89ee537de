/- The reference merger: Next. -/
import Derived.Test.YtcgejfmbhpmjfaaVRefG
import Derived.Test.YtcgejfmbhpmjfaaVBoth
set_option linter.unusedSimpArgs false
set_option linter.unusedVariables false
set_option maxRecDepth 20000
namespace Go.Proofs.Ytcgejfmbhpmjfaa
open Go Go.V
-- 56: (*pith/pithref11.Merger).Next
-- 57: (*pith/pithref11.Merger).Wants
-- 13: pith/pithref11.Less
-- 71: pith/pithref11.same
-- 3: int
-- 24: pith/api.Pair
-- 22: []api.Pair
-- 91: pithref11.Merger
-- 110: pithref11.Source
/-- What stands for the scan's best. -/
def Best (ss : List Src) (i : Nat) (b : Int) : Prop :=
  (b = -1 ∧ ∀ j, j < i → (sg ss j).l = []) ∨ ∃ k : Nat, b = k ∧ k < i ∧ (sg ss k).l ≠ [] ∧ ∀ j, j < i → (sg ss j).l ≠ [] → ltP (hd ss j) (hd ss k) = false
theorem best_min {ss : List Src} {k : Nat} (hk : k < ss.length) (hn : (sg ss k).l ≠ []) (h : ∀ j, j < ss.length → (sg ss j).l ≠ [] → ltP (hd ss j) (hd ss k) = false) : IsMin ss (hd ss k) := by
  refine ⟨⟨sg ss k, by unfold sg; exact mem_getD hk default, hd_of hn⟩, fun s hs q hq => ?_⟩
  obtain ⟨i, hi, rfl⟩ := List.mem_iff_getElem.1 hs
  rw [← sg_get hi] at hq
  have hne : (sg ss i).l ≠ [] := by intro e; rw [e] at hq; cases hq
  have e2 := hd_of hne
  rw [hq] at e2
  cases e2
  exact h i hi hne
set_option maxHeartbeats 1600000 in
theorem F56 {H : Heap} {F : Nat → Prop} {M S : Nat} {lvs : List Value} {ss : List Src} (h : RefH H F M S lvs ss) :
    Fun Try.prog 56 #[.pointer (some ⟨M, 0, none⟩)] H (fun r H' => ∃ o ss', r = .tuple #[pv (o.getD (0, 0)), .bool o.isSome] ∧ NextR ss o ss' ∧ ∃ F' lvs', RefH H' F' M S lvs' ss' ∧ Ch F F' H H') := by
  refine fun_of mixed (args := [_]) Try.func56 Try.ntmps56 b56 r56 rfl ?_
  have ht := h.tight
  have hk := h.k64
  simp only [go_sem, ↓reduceIte, Nat.reduceEqDiff, Nat.reduceLeDiff, Nat.reduceAdd, Nat.reduceMul, Nat.reduceSub, Nat.reduceBEq, Nat.reduceGT, Nat.reduceLT, Int.reduceLE, Int.reduceLT, Int.reduceNeg, reduceCtorEq]
  generalize hH0 : Array.push H (Obj.cells #[Value.int .i64 0, Value.int .i64 0] 24) = H0
  have x0 : Ext H H0 := by rw [← hH0]; exact Ext.push _
  have c0 : H0[H.size]? = some (Obj.cells #[Value.int .i64 0, Value.int .i64 0] 24) := by rw [← hH0, push_new]
  have s0 : H0.size = H.size + 1 := by rw [← hH0]; simp
  obtain ⟨F1, hF1⟩ : ∃ F1 : Nat → Prop, F1 = fun b => F b ∧ b < H.size := ⟨_, rfl⟩
  rw [← hF1] at ht
  have hF1a : ∀ b, F1 b → F b := fun b hb => by rw [hF1] at hb; exact hb.1
  have hF1b : ∀ b, F1 b → b < H.size := fun b hb => by rw [hF1] at hb; exact hb.2
  clear hF1 hH0
  have mer0 := ht.ext x0
  refine FunI.by (F57 mer0) ?_
  rintro _ _ ⟨rfl, rfl⟩
  have none_case : ∀ H1 : Heap, Ext H0 H1 → (0 ≤ wantsS ss ∨ ∀ s ∈ ss, s.l = []) → hcan H1 H.size 0 2 ∧ hget (hput H1 H.size 0 [.int .i64 0, .int .i64 0]) H.size 0 = some (.int .i64 0) ∧ hget (hput H1 H.size 0 [.int .i64 0, .int .i64 0]) H.size 1 = some (.int .i64 0) ∧ ∃ o ss', Value.tuple #[pv (0, 0), .bool false] = .tuple #[pv (o.getD (0, 0)), .bool o.isSome] ∧ NextR ss o ss' ∧ ∃ F' lvs', RefH (hput H1 H.size 0 [.int .i64 0, .int .i64 0]) F' M S lvs' ss' ∧ Ch F F' H (hput H1 H.size 0 [.int .i64 0, .int .i64 0]) := by
    intro H1 x1 hno
    have c1 : H1[H.size]? = some (Obj.cells #[Value.int .i64 0, Value.int .i64 0] 24) := by rw [x1.get _ (by omega)]; exact c0
    obtain ⟨can1, _, cg0, cg1⟩ := cell2 (x := .int .i64 0) (y := .int .i64 0) c1
    refine ⟨can1, cg0, cg1, none, ss, rfl, .inl ⟨hno, rfl, rfl⟩, F1, lvs, (mer0.ext x1).keep fun b hb => hput_other _ _ _ _ (fun e => by have := hF1b b hb; omega), ?_⟩
    exact Ch.widen (Ext.ch ((x0.trans (x1.mono x0.size)).hput (Nat.le_refl _))) hF1a
  by_cases hw : 0 ≤ wantsS ss
  · obtain ⟨can1, cg0, cg1, nc⟩ := none_case H0 (Upto.refl _ _) (.inl hw)
    simp only [go_sem, ↓reduceIte, Nat.reduceEqDiff, Nat.reduceLeDiff, Nat.reduceAdd, Nat.reduceMul, Nat.reduceSub, Nat.reduceBEq, Nat.reduceGT, Nat.reduceLT, Int.reduceLE, Int.reduceLT, Int.reduceNeg, reduceCtorEq, hw, can1, loadV, ty24]
    refine ⟨rfl, _, ?_, nc⟩
    simp only [cg0, cg1, Option.bind_some]
  simp only [go_sem, ↓reduceIte, Nat.reduceEqDiff, Nat.reduceLeDiff, Nat.reduceAdd, Nat.reduceMul, Nat.reduceSub, Nat.reduceBEq, Nat.reduceGT, Nat.reduceLT, Int.reduceLE, Int.reduceLT, Int.reduceNeg, reduceCtorEq, hw]
  refine LoopI.by mixed (fun ρ H' => ∃ (i : Nat) (b : Int), ρ 0 = .pointer (some ⟨M, 0, none⟩) ∧ ρ 2 = .pointer (some ⟨H.size, 0, none⟩) ∧ ρ 4 = .int .i64 b ∧ ρ 5 = .int .i64 i ∧ i ≤ ss.length ∧ Best ss i b ∧ Ext H0 H') (fun ρ _ => ss.length - (iof (ρ 5)).toNat) ?_ ?_
  · exact ⟨0, -1, by simp only [go_sem, ↓reduceIte, Nat.reduceEqDiff, Nat.reduceLeDiff, Nat.reduceAdd, Nat.reduceMul, Nat.reduceSub, Nat.reduceBEq, Nat.reduceGT, Nat.reduceLT, Int.reduceLE, Int.reduceLT, Int.reduceNeg, reduceCtorEq], by simp only [go_sem, ↓reduceIte, Nat.reduceEqDiff, Nat.reduceLeDiff, Nat.reduceAdd, Nat.reduceMul, Nat.reduceSub, Nat.reduceBEq, Nat.reduceGT, Nat.reduceLT, Int.reduceLE, Int.reduceLT, Int.reduceNeg, reduceCtorEq], by simp only [go_sem, ↓reduceIte, Nat.reduceEqDiff, Nat.reduceLeDiff, Nat.reduceAdd, Nat.reduceMul, Nat.reduceSub, Nat.reduceBEq, Nat.reduceGT, Nat.reduceLT, Int.reduceLE, Int.reduceLT, Int.reduceNeg, reduceCtorEq], by simp only [go_sem, ↓reduceIte, Nat.reduceEqDiff, Nat.reduceLeDiff, Nat.reduceAdd, Nat.reduceMul, Nat.reduceSub, Nat.reduceBEq, Nat.reduceGT, Nat.reduceLT, Int.reduceLE, Int.reduceLT, Int.reduceNeg, reduceCtorEq]; rfl, by omega, .inl ⟨rfl, by omega⟩, Upto.refl _ _⟩
  rintro ρ H1 ⟨i, b, e0, e2, e4, e5, hi, hb, x1⟩
  have mer := mer0.ext x1
  have m0 := mer.getM
  by_cases hlt : i < ss.length
  · have q1 : (i : Int) < ss.length := by omega
    have z0 : (0 : Int) ≤ i := by omega
    obtain ⟨aL, cL, gl⟩ := mer.getV hlt
    have w1 : IntKind.i64.wrap ((i : Int) + 1) = ((i + 1 : Nat) : Int) := by rw [w64_id (by omega) (by omega)]; omega
    by_cases hl0 : (sg ss i).l = []
    · have q2 : ¬ (0 : Int) < (sg ss i).l.length := by rw [hl0]; simp
      simp only [go_sem, ↓reduceIte, Nat.reduceEqDiff, Nat.reduceLeDiff, Nat.reduceAdd, Nat.reduceMul, Nat.reduceSub, Nat.reduceBEq, Nat.reduceGT, Nat.reduceLT, Int.reduceLE, Int.reduceLT, Int.reduceNeg, reduceCtorEq, c56_L0, e0, e2, e4, e5, m0, q1, z0, gl, q2, w1, Int.toNat_natCast]
      refine ⟨Hold.mk ⟨i + 1, b, by simp only [go_sem, ↓reduceIte, Nat.reduceEqDiff, Nat.reduceLeDiff, Nat.reduceAdd, Nat.reduceMul, Nat.reduceSub, Nat.reduceBEq, Nat.reduceGT, Nat.reduceLT, Int.reduceLE, Int.reduceLT, Int.reduceNeg, reduceCtorEq, e0], by simp only [go_sem, ↓reduceIte, Nat.reduceEqDiff, Nat.reduceLeDiff, Nat.reduceAdd, Nat.reduceMul, Nat.reduceSub, Nat.reduceBEq, Nat.reduceGT, Nat.reduceLT, Int.reduceLE, Int.reduceLT, Int.reduceNeg, reduceCtorEq, e2], by simp only [go_sem, ↓reduceIte, Nat.reduceEqDiff, Nat.reduceLeDiff, Nat.reduceAdd, Nat.reduceMul, Nat.reduceSub, Nat.reduceBEq, Nat.reduceGT, Nat.reduceLT, Int.reduceLE, Int.reduceLT, Int.reduceNeg, reduceCtorEq, e4], by simp only [go_sem, ↓reduceIte, Nat.reduceEqDiff, Nat.reduceLeDiff, Nat.reduceAdd, Nat.reduceMul, Nat.reduceSub, Nat.reduceBEq, Nat.reduceGT, Nat.reduceLT, Int.reduceLE, Int.reduceLT, Int.reduceNeg, reduceCtorEq], by omega, ?_, x1⟩, by omega⟩
      rcases hb with ⟨hb1, hb2⟩ | ⟨k, hb1, hb2, hb3, hb4⟩
      · left
        refine ⟨hb1, fun j hj => ?_⟩
        by_cases hji : j = i
        · rw [hji]; exact hl0
        · exact hb2 j (by omega)
      · right
        refine ⟨k, hb1, by omega, hb3, fun j hj hn => ?_⟩
        by_cases hji : j = i
        · rw [hji] at hn; exact absurd hl0 hn
        · exact hb4 j (by omega) hn
    · have q2 : (0 : Int) < (sg ss i).l.length := by have := List.length_pos_iff.2 hl0; omega
      obtain ⟨bi, oi, ci, ei, gi1, gi2⟩ := mer.getHead hlt hl0
      have si := (mer.getS hlt).1
      rw [ei] at si
      rcases hb with ⟨rfl, hb2⟩ | ⟨k, rfl, hb2, hb3, hb4⟩
      · simp only [go_sem, ↓reduceIte, Nat.reduceEqDiff, Nat.reduceLeDiff, Nat.reduceAdd, Nat.reduceMul, Nat.reduceSub, Nat.reduceBEq, Nat.reduceGT, Nat.reduceLT, Int.reduceLE, Int.reduceLT, Int.reduceNeg, reduceCtorEq, c56_L0, e0, e2, e4, e5, m0, q1, z0, si, q2, w1, Int.toNat_natCast, show (-1 : Int) < 0 by decide]
        refine ⟨Hold.mk ⟨i + 1, i, by simp only [go_sem, ↓reduceIte, Nat.reduceEqDiff, Nat.reduceLeDiff, Nat.reduceAdd, Nat.reduceMul, Nat.reduceSub, Nat.reduceBEq, Nat.reduceGT, Nat.reduceLT, Int.reduceLE, Int.reduceLT, Int.reduceNeg, reduceCtorEq, e0], by simp only [go_sem, ↓reduceIte, Nat.reduceEqDiff, Nat.reduceLeDiff, Nat.reduceAdd, Nat.reduceMul, Nat.reduceSub, Nat.reduceBEq, Nat.reduceGT, Nat.reduceLT, Int.reduceLE, Int.reduceLT, Int.reduceNeg, reduceCtorEq, e2], by simp only [go_sem, ↓reduceIte, Nat.reduceEqDiff, Nat.reduceLeDiff, Nat.reduceAdd, Nat.reduceMul, Nat.reduceSub, Nat.reduceBEq, Nat.reduceGT, Nat.reduceLT, Int.reduceLE, Int.reduceLT, Int.reduceNeg, reduceCtorEq], by simp only [go_sem, ↓reduceIte, Nat.reduceEqDiff, Nat.reduceLeDiff, Nat.reduceAdd, Nat.reduceMul, Nat.reduceSub, Nat.reduceBEq, Nat.reduceGT, Nat.reduceLT, Int.reduceLE, Int.reduceLT, Int.reduceNeg, reduceCtorEq], by omega, .inr ⟨i, rfl, by omega, hl0, fun j hj hn => ?_⟩, x1⟩, by omega⟩
        by_cases hji : j = i
        · rw [hji]; exact lt_irrefl' _
        · exact absurd (hb2 j (by omega)) hn
      · have hkl : k < ss.length := by omega
        have q3 : ¬ (k : Int) < 0 := by omega
        have z1 : (0 : Int) ≤ k := by omega
        have q4 : (k : Int) < ss.length := by omega
        have q5 : (0 : Int) < (sg ss k).l.length := by have := List.length_pos_iff.2 hb3; omega
        obtain ⟨bk, ok, ck, ek, gk1, gk2⟩ := mer.getHead hkl hb3
        have sk := (mer.getS hkl).1
        rw [ek] at sk
        simp only [go_sem, ↓reduceIte, Nat.reduceEqDiff, Nat.reduceLeDiff, Nat.reduceAdd, Nat.reduceMul, Nat.reduceSub, Nat.reduceBEq, Nat.reduceGT, Nat.reduceLT, Int.reduceLE, Int.reduceLT, Int.reduceNeg, reduceCtorEq, c56_L0, e0, e2, e4, e5, m0, q1, q3, q4, q5, z0, z1, si, sk, gi1, gi2, gk1, gk2, q2, w1, Int.toNat_natCast, Option.bind_some, show Int.toNat 0 = 0 from rfl, show (0 : Int) ≤ 0 from Int.le_refl _]
        refine FunI.by (F13 (hd ss i) (hd ss k) H1) ?_
        rintro _ H2 ⟨rfl, x2⟩
        replace x1 := x1.trans (x2.mono x1.size)
        cases hq : ltP (hd ss i) (hd ss k) with
        | true =>
          simp only [go_sem, ↓reduceIte, Nat.reduceEqDiff, Nat.reduceLeDiff, Nat.reduceAdd, Nat.reduceMul, Nat.reduceSub, Nat.reduceBEq, Nat.reduceGT, Nat.reduceLT, Int.reduceLE, Int.reduceLT, Int.reduceNeg, reduceCtorEq, e5, w1]
          refine ⟨Hold.mk ⟨i + 1, i, by simp only [go_sem, ↓reduceIte, Nat.reduceEqDiff, Nat.reduceLeDiff, Nat.reduceAdd, Nat.reduceMul, Nat.reduceSub, Nat.reduceBEq, Nat.reduceGT, Nat.reduceLT, Int.reduceLE, Int.reduceLT, Int.reduceNeg, reduceCtorEq, e0], by simp only [go_sem, ↓reduceIte, Nat.reduceEqDiff, Nat.reduceLeDiff, Nat.reduceAdd, Nat.reduceMul, Nat.reduceSub, Nat.reduceBEq, Nat.reduceGT, Nat.reduceLT, Int.reduceLE, Int.reduceLT, Int.reduceNeg, reduceCtorEq, e2], by simp only [go_sem, ↓reduceIte, Nat.reduceEqDiff, Nat.reduceLeDiff, Nat.reduceAdd, Nat.reduceMul, Nat.reduceSub, Nat.reduceBEq, Nat.reduceGT, Nat.reduceLT, Int.reduceLE, Int.reduceLT, Int.reduceNeg, reduceCtorEq], by simp only [go_sem, ↓reduceIte, Nat.reduceEqDiff, Nat.reduceLeDiff, Nat.reduceAdd, Nat.reduceMul, Nat.reduceSub, Nat.reduceBEq, Nat.reduceGT, Nat.reduceLT, Int.reduceLE, Int.reduceLT, Int.reduceNeg, reduceCtorEq], by omega, .inr ⟨i, rfl, by omega, hl0, fun j hj hn => ?_⟩, x1⟩, by omega⟩
          by_cases hji : j = i
          · rw [hji]; exact lt_irrefl' _
          · exact nlt_trans (nlt_of hq) (hb4 j (by omega) hn)
        | false =>
          simp only [go_sem, ↓reduceIte, Nat.reduceEqDiff, Nat.reduceLeDiff, Nat.reduceAdd, Nat.reduceMul, Nat.reduceSub, Nat.reduceBEq, Nat.reduceGT, Nat.reduceLT, Int.reduceLE, Int.reduceLT, Int.reduceNeg, reduceCtorEq, e5, w1]
          refine ⟨Hold.mk ⟨i + 1, k, by simp only [go_sem, ↓reduceIte, Nat.reduceEqDiff, Nat.reduceLeDiff, Nat.reduceAdd, Nat.reduceMul, Nat.reduceSub, Nat.reduceBEq, Nat.reduceGT, Nat.reduceLT, Int.reduceLE, Int.reduceLT, Int.reduceNeg, reduceCtorEq, e0], by simp only [go_sem, ↓reduceIte, Nat.reduceEqDiff, Nat.reduceLeDiff, Nat.reduceAdd, Nat.reduceMul, Nat.reduceSub, Nat.reduceBEq, Nat.reduceGT, Nat.reduceLT, Int.reduceLE, Int.reduceLT, Int.reduceNeg, reduceCtorEq, e2], by simp only [go_sem, ↓reduceIte, Nat.reduceEqDiff, Nat.reduceLeDiff, Nat.reduceAdd, Nat.reduceMul, Nat.reduceSub, Nat.reduceBEq, Nat.reduceGT, Nat.reduceLT, Int.reduceLE, Int.reduceLT, Int.reduceNeg, reduceCtorEq, e4], by simp only [go_sem, ↓reduceIte, Nat.reduceEqDiff, Nat.reduceLeDiff, Nat.reduceAdd, Nat.reduceMul, Nat.reduceSub, Nat.reduceBEq, Nat.reduceGT, Nat.reduceLT, Int.reduceLE, Int.reduceLT, Int.reduceNeg, reduceCtorEq], by omega, .inr ⟨k, rfl, by omega, hb3, fun j hj hn => ?_⟩, x1⟩, by omega⟩
          by_cases hji : j = i
          · rw [hji]; exact hq
          · exact hb4 j (by omega) hn
  · have q1 : ¬ (i : Int) < ss.length := by omega
    obtain rfl : i = ss.length := by omega
    rcases hb with ⟨rfl, hb2⟩ | ⟨k, rfl, hb2, hb3, hb4⟩
    · have hall : ∀ s ∈ ss, s.l = [] := fun s hs => by
        obtain ⟨j, hj, rfl⟩ := List.mem_iff_getElem.1 hs
        rw [← sg_get hj]
        exact hb2 j hj
      obtain ⟨can1, cg0, cg1, nc⟩ := none_case H1 x1 (.inr hall)
      simp only [go_sem, ↓reduceIte, Nat.reduceEqDiff, Nat.reduceLeDiff, Nat.reduceAdd, Nat.reduceMul, Nat.reduceSub, Nat.reduceBEq, Nat.reduceGT, Nat.reduceLT, Int.reduceLE, Int.reduceLT, Int.reduceNeg, reduceCtorEq, c56_L0, e0, e2, e4, e5, m0, q1, can1, loadV, ty24, show (-1 : Int) < 0 by decide]
      refine ⟨rfl, _, ?_, nc⟩
      simp only [cg0, cg1, Option.bind_some]
    · have q3 : ¬ (k : Int) < 0 := by omega
      have z1 : (0 : Int) ≤ k := by omega
      have q4 : (k : Int) < ss.length := by omega
      have q5 : (0 : Int) < (sg ss k).l.length := by have := List.length_pos_iff.2 hb3; omega
      obtain ⟨bk, ok, ck, ek, gk1, gk2⟩ := mer.getHead hb2 hb3
      have sk := (mer.getS hb2).1
      rw [ek] at sk
      simp only [go_sem, ↓reduceIte, Nat.reduceEqDiff, Nat.reduceLeDiff, Nat.reduceAdd, Nat.reduceMul, Nat.reduceSub, Nat.reduceBEq, Nat.reduceGT, Nat.reduceLT, Int.reduceLE, Int.reduceLT, Int.reduceNeg, reduceCtorEq, c56_L0, e0, e2, e4, e5, m0, q1, q3, q4, q5, z1, sk, gk1, gk2, Int.toNat_natCast, Option.bind_some, show Int.toNat 0 = 0 from rfl, show (0 : Int) ≤ 0 from Int.le_refl _]
      refine ⟨rfl, hcan_of push_new (by simp), ?_⟩
      rw [hput_push2]
      obtain ⟨p, hp0⟩ : ∃ p, p = hd ss k := ⟨_, rfl⟩
      have hmin : IsMin ss p := by rw [hp0]; exact best_min hb2 hb3 hb4
      rw [← hp0]
      obtain ⟨H2, hH2⟩ : ∃ H2, H2 = Array.push H1 (Obj.cells #[Value.int .i64 p.1, Value.int .i64 p.2] 24) := ⟨_, rfl⟩
      have x2 : Ext H1 H2 := by rw [hH2]; exact Ext.push _
      have d2 : H2[H1.size]? = some (Obj.cells #[Value.int .i64 p.1, Value.int .i64 p.2] 24) := by rw [hH2, push_new]
      have hs1 : H.size < H1.size := by have := x1.size; omega
      have c2 : H2[H.size]? = some (Obj.cells #[Value.int .i64 0, Value.int .i64 0] 24) := by rw [x2.get _ hs1, x1.get _ (by omega)]; exact c0
      rw [← hH2]
      clear hH2
      have nF : ∀ b, H.size ≤ b → ¬ F1 b := fun b hb hf => by have := hF1b b hf; omega
      have hsz2 : H.size ≤ H2.size := by have := x2.size; omega
      have mer2 := mer.ext x2
      have x02 : Ext H H2 := (x0.trans (x1.mono x0.size)).trans (x2.mono (by omega))
      have hwn : wantsS ss < 0 := by omega
      clear m0 gk1 gk2 sk mer
      refine LoopI.by mixed (fun ρ H' => ∃ (i : Nat) (cur : List Src) (F' : Nat → Prop) (lvs' : List Value), ρ 0 = .pointer (some ⟨M, 0, none⟩) ∧ ρ 2 = .pointer (some ⟨H.size, 0, none⟩) ∧ ρ 6 = .pointer (some ⟨H1.size, 0, none⟩) ∧ ρ 7 = .int .i64 i ∧ i ≤ ss.length ∧ cur.length = ss.length ∧ (∀ j, j < ss.length → sg cur j = if j < i then adv1 p (sg ss j) else sg ss j) ∧ RefH H' F' M S lvs' cur ∧ Ch F1 F' H2 H') (fun ρ _ => ss.length - (iof (ρ 7)).toNat) ?_ ?_
      · exact ⟨0, ss, F1, lvs, by simp only [go_sem, ↓reduceIte, Nat.reduceEqDiff, Nat.reduceLeDiff, Nat.reduceAdd, Nat.reduceMul, Nat.reduceSub, Nat.reduceBEq, Nat.reduceGT, Nat.reduceLT, Int.reduceLE, Int.reduceLT, Int.reduceNeg, reduceCtorEq, e0], by simp only [go_sem, ↓reduceIte, Nat.reduceEqDiff, Nat.reduceLeDiff, Nat.reduceAdd, Nat.reduceMul, Nat.reduceSub, Nat.reduceBEq, Nat.reduceGT, Nat.reduceLT, Int.reduceLE, Int.reduceLT, Int.reduceNeg, reduceCtorEq, e2], by simp only [go_sem, ↓reduceIte, Nat.reduceEqDiff, Nat.reduceLeDiff, Nat.reduceAdd, Nat.reduceMul, Nat.reduceSub, Nat.reduceBEq, Nat.reduceGT, Nat.reduceLT, Int.reduceLE, Int.reduceLT, Int.reduceNeg, reduceCtorEq], by simp only [go_sem, ↓reduceIte, Nat.reduceEqDiff, Nat.reduceLeDiff, Nat.reduceAdd, Nat.reduceMul, Nat.reduceSub, Nat.reduceBEq, Nat.reduceGT, Nat.reduceLT, Int.reduceLE, Int.reduceLT, Int.reduceNeg, reduceCtorEq]; rfl, by omega, rfl, fun j _ => by rw [if_neg (by omega)], mer2, Ch.refl _ _⟩
      clear e0 e2 e4 e5
      rintro ρ2 H3 ⟨i, cur, F3, lvs3, e0, e2, e6, e7, hi, hcl, hcur, mer, ch3⟩
      have d3 := ch3.cell d2 (nF _ (by omega))
      have c3 := ch3.cell c2 (nF _ (Nat.le_refl _))
      have gd0 : hget H3 H1.size 0 = some (.int .i64 p.1) := by rw [hget_cells d3]; rfl
      have gd1 : hget H3 H1.size 1 = some (.int .i64 p.2) := by rw [hget_cells d3]; rfl
      have m0 := mer.getM
      by_cases hlt : i < ss.length
      · have r1 : (i : Int) < cur.length := by omega
        have z0 : (0 : Int) ≤ i := by omega
        have w1 : IntKind.i64.wrap ((i : Int) + 1) = ((i + 1 : Nat) : Int) := by rw [w64_id (by omega) (by omega)]; omega
        have hic : i < cur.length := by omega
        obtain ⟨aL, cL, gl⟩ := mer.getV hic
        have hsi : sg cur i = sg ss i := by rw [hcur i hlt, if_neg (by omega)]
        have stay : adv1 p (sg ss i) = sg ss i → ∀ j, j < ss.length → sg cur j = if j < i + 1 then adv1 p (sg ss j) else sg ss j := fun ha j hj => by
          rw [hcur j hj]
          by_cases hji : j = i
          · subst hji
            rw [if_neg (by omega), if_pos (by omega), ha]
          · by_cases hlt2 : j < i
            · rw [if_pos hlt2, if_pos (by omega)]
            · rw [if_neg hlt2, if_neg (by omega)]
        by_cases hl0 : (sg cur i).l = []
        · have r2 : ¬ (0 : Int) < (sg cur i).l.length := by rw [hl0]; simp
          simp only [go_sem, ↓reduceIte, Nat.reduceEqDiff, Nat.reduceLeDiff, Nat.reduceAdd, Nat.reduceMul, Nat.reduceSub, Nat.reduceBEq, Nat.reduceGT, Nat.reduceLT, Int.reduceLE, Int.reduceLT, Int.reduceNeg, reduceCtorEq, c56_L1, e0, e2, e6, e7, m0, r1, z0, gl, r2, w1, Int.toNat_natCast]
          refine ⟨Hold.mk ⟨i + 1, cur, F3, lvs3, by simp only [go_sem, ↓reduceIte, Nat.reduceEqDiff, Nat.reduceLeDiff, Nat.reduceAdd, Nat.reduceMul, Nat.reduceSub, Nat.reduceBEq, Nat.reduceGT, Nat.reduceLT, Int.reduceLE, Int.reduceLT, Int.reduceNeg, reduceCtorEq, e0], by simp only [go_sem, ↓reduceIte, Nat.reduceEqDiff, Nat.reduceLeDiff, Nat.reduceAdd, Nat.reduceMul, Nat.reduceSub, Nat.reduceBEq, Nat.reduceGT, Nat.reduceLT, Int.reduceLE, Int.reduceLT, Int.reduceNeg, reduceCtorEq, e2], by simp only [go_sem, ↓reduceIte, Nat.reduceEqDiff, Nat.reduceLeDiff, Nat.reduceAdd, Nat.reduceMul, Nat.reduceSub, Nat.reduceBEq, Nat.reduceGT, Nat.reduceLT, Int.reduceLE, Int.reduceLT, Int.reduceNeg, reduceCtorEq, e6], by simp only [go_sem, ↓reduceIte, Nat.reduceEqDiff, Nat.reduceLeDiff, Nat.reduceAdd, Nat.reduceMul, Nat.reduceSub, Nat.reduceBEq, Nat.reduceGT, Nat.reduceLT, Int.reduceLE, Int.reduceLT, Int.reduceNeg, reduceCtorEq], by omega, hcl, stay ?_, mer, ch3⟩, by omega⟩
          unfold adv1
          rw [← hsi, hl0, if_neg (by simp)]
        · have r2 : (0 : Int) < (sg cur i).l.length := by have := List.length_pos_iff.2 hl0; omega
          obtain ⟨bi, oi, ci, ei, gi1, gi2⟩ := mer.getHead hic hl0
          have si := (mer.getS hic).1
          rw [ei] at si
          simp only [go_sem, ↓reduceIte, Nat.reduceEqDiff, Nat.reduceLeDiff, Nat.reduceAdd, Nat.reduceMul, Nat.reduceSub, Nat.reduceBEq, Nat.reduceGT, Nat.reduceLT, Int.reduceLE, Int.reduceLT, Int.reduceNeg, reduceCtorEq, c56_L1, e0, e2, e6, e7, m0, r1, z0, si, r2, gi1, gi2, gd0, gd1, w1, Int.toNat_natCast, Option.bind_some, show Int.toNat 0 = 0 from rfl, show (0 : Int) ≤ 0 from Int.le_refl _]
          refine FunI.by (F71 (hd cur i) p H3) ?_
          rintro _ H4 ⟨rfl, x4⟩
          cases heq : decide (hd cur i = p) with
          | false =>
            have heq' := of_decide_eq_false heq
            simp only [go_sem, ↓reduceIte, Nat.reduceEqDiff, Nat.reduceLeDiff, Nat.reduceAdd, Nat.reduceMul, Nat.reduceSub, Nat.reduceBEq, Nat.reduceGT, Nat.reduceLT, Int.reduceLE, Int.reduceLT, Int.reduceNeg, reduceCtorEq, e7, w1]
            refine ⟨Hold.mk ⟨i + 1, cur, F3, lvs3, by simp only [go_sem, ↓reduceIte, Nat.reduceEqDiff, Nat.reduceLeDiff, Nat.reduceAdd, Nat.reduceMul, Nat.reduceSub, Nat.reduceBEq, Nat.reduceGT, Nat.reduceLT, Int.reduceLE, Int.reduceLT, Int.reduceNeg, reduceCtorEq, e0], by simp only [go_sem, ↓reduceIte, Nat.reduceEqDiff, Nat.reduceLeDiff, Nat.reduceAdd, Nat.reduceMul, Nat.reduceSub, Nat.reduceBEq, Nat.reduceGT, Nat.reduceLT, Int.reduceLE, Int.reduceLT, Int.reduceNeg, reduceCtorEq, e2], by simp only [go_sem, ↓reduceIte, Nat.reduceEqDiff, Nat.reduceLeDiff, Nat.reduceAdd, Nat.reduceMul, Nat.reduceSub, Nat.reduceBEq, Nat.reduceGT, Nat.reduceLT, Int.reduceLE, Int.reduceLT, Int.reduceNeg, reduceCtorEq, e6], by simp only [go_sem, ↓reduceIte, Nat.reduceEqDiff, Nat.reduceLeDiff, Nat.reduceAdd, Nat.reduceMul, Nat.reduceSub, Nat.reduceBEq, Nat.reduceGT, Nat.reduceLT, Int.reduceLE, Int.reduceLT, Int.reduceNeg, reduceCtorEq], by omega, hcl, stay ?_, mer.ext x4, ch3.trans (Ext.ch x4)⟩, by omega⟩
            unfold adv1
            rw [← hsi, hd_of hl0, if_neg]
            intro hh
            exact heq' (Option.some.inj hh)
          | true =>
            have heq' := of_decide_eq_true heq
            have mer4 := mer.ext x4
            have m4 := mer4.getM
            have gs4 := (mer4.getS hic).1
            have o4 := mer4.hl i hic
            rw [ei] at gs4 o4
            have osub := Own2.tail o4 (by omega)
            rw [cp_tail] at osub
            obtain ⟨a5, ha5⟩ : ∃ a5, a5 = (if ci = Int.toNat 1 then some (⟨bi, oi, none⟩ : Addr) else some ⟨bi, oi + Int.toNat 1 * 2, none⟩) := ⟨_, rfl⟩
            rw [← ha5] at osub
            obtain ⟨can4, F5, mer5, ch5⟩ := mer4.setL hic (Upto.refl _ _) osub (fun g hg => .inl (by rw [ei, ← hg, ha5]; split <;> rfl))
            have can4' : hcan H4 S (i * 5) 1 := can4
            have i1 : (1 : Int) ≤ (sg cur i).l.length := by omega
            simp only [go_sem, ↓reduceIte, Nat.reduceEqDiff, Nat.reduceLeDiff, Nat.reduceAdd, Nat.reduceMul, Nat.reduceSub, Nat.reduceBEq, Nat.reduceGT, Nat.reduceLT, Int.reduceLE, Int.reduceLT, Int.reduceNeg, reduceCtorEq, e0, e7, m4, r1, z0, gs4, i1, w1, can4', ← ha5, Int.toNat_natCast, Option.bind_some]
            have ed : cur.set i { sg cur i with l := (sg cur i).l.tail } = cur.set i (adv1 p (sg ss i)) := by
              unfold adv1
              rw [← hsi, hd_of hl0, if_pos (by rw [heq'])]
            rw [ed] at mer5
            refine ⟨rfl, Hold.mk ⟨i + 1, _, F5, _, by simp only [go_sem, ↓reduceIte, Nat.reduceEqDiff, Nat.reduceLeDiff, Nat.reduceAdd, Nat.reduceMul, Nat.reduceSub, Nat.reduceBEq, Nat.reduceGT, Nat.reduceLT, Int.reduceLE, Int.reduceLT, Int.reduceNeg, reduceCtorEq, e0], by simp only [go_sem, ↓reduceIte, Nat.reduceEqDiff, Nat.reduceLeDiff, Nat.reduceAdd, Nat.reduceMul, Nat.reduceSub, Nat.reduceBEq, Nat.reduceGT, Nat.reduceLT, Int.reduceLE, Int.reduceLT, Int.reduceNeg, reduceCtorEq, e2], by simp only [go_sem, ↓reduceIte, Nat.reduceEqDiff, Nat.reduceLeDiff, Nat.reduceAdd, Nat.reduceMul, Nat.reduceSub, Nat.reduceBEq, Nat.reduceGT, Nat.reduceLT, Int.reduceLE, Int.reduceLT, Int.reduceNeg, reduceCtorEq, e6], by simp only [go_sem, ↓reduceIte, Nat.reduceEqDiff, Nat.reduceLeDiff, Nat.reduceAdd, Nat.reduceMul, Nat.reduceSub, Nat.reduceBEq, Nat.reduceGT, Nat.reduceLT, Int.reduceLE, Int.reduceLT, Int.reduceNeg, reduceCtorEq], by omega, by rw [List.length_set]; exact hcl, fun j hj => ?_, mer5, (ch3.trans (Ext.ch x4)).trans ch5⟩, by omega⟩
            rw [sg_set hic]
            by_cases hji : j = i
            · subst hji
              rw [if_pos rfl, if_pos (by omega)]
            · rw [if_neg hji, hcur j hj]
              by_cases hlt2 : j < i
              · rw [if_pos hlt2, if_pos (by omega)]
              · rw [if_neg hlt2, if_neg (by omega)]
      · have r1 : ¬ (i : Int) < cur.length := by omega
        obtain rfl : i = ss.length := by omega
        obtain ⟨can3, _, cg0, cg1⟩ := cell2 (x := .int .i64 p.1) (y := .int .i64 p.2) c3
        simp only [go_sem, ↓reduceIte, Nat.reduceEqDiff, Nat.reduceLeDiff, Nat.reduceAdd, Nat.reduceMul, Nat.reduceSub, Nat.reduceBEq, Nat.reduceGT, Nat.reduceLT, Int.reduceLE, Int.reduceLT, Int.reduceNeg, reduceCtorEq, c56_L1, e0, e2, e6, e7, m0, r1, gd0, gd1, can3, loadV, ty24, Option.bind_some]
        have hcm : cur = ss.map (adv1 p) := ext_sg (by rw [hcl, List.length_map]) fun j hj => by
          rw [hcl] at hj
          rw [hcur j hj, if_pos hj, sg_map hj]
        refine ⟨rfl, _, ?_, some p, cur, rfl, .inr ⟨hwn, p, hmin, rfl, hcm⟩, F3, lvs3, mer.keep fun b hb => hput_other _ _ _ _ (fun e => ?_), Ch.widen (((Ext.ch x02).trans ch3).hput (Nat.le_refl _)) hF1a⟩
        · simp only [cg0, cg1, Option.bind_some, Option.getD_some]
        · rcases ch3.old b hb with hh | hh
          · exact nF b (by omega) hh
          · have := x2.size
            omega
end Go.Proofs.Ytcgejfmbhpmjfaa
