/- The laws' fitting: a checkpoint, and degrees that it fits. -/
import Derived.Test.YtgigigchjnnonaaDoorVCkA
set_option linter.unusedSimpArgs false
set_option linter.unusedVariables false
set_option maxRecDepth 20000
namespace Go.V
open Go
theorem and_le (x : Int) (m : Nat) (hm : m < 9223372036854775808) : 0 ≤ ibits .and .i64 x (m : Int) ∧ ibits .and .i64 x (m : Int) ≤ m := by
  show 0 ≤ IntKind.i64.wrap (((BitVec.ofInt 64 x &&& BitVec.ofInt 64 (m : Int)).toNat : Nat) : Int) ∧ IntKind.i64.wrap (((BitVec.ofInt 64 x &&& BitVec.ofInt 64 (m : Int)).toNat : Nat) : Int) ≤ m
  have h : (BitVec.ofInt 64 x &&& BitVec.ofInt 64 (m : Int)).toNat ≤ m := by
    rw [BitVec.toNat_and]
    refine Nat.le_trans Nat.and_le_right ?_
    rw [BitVec.toNat_ofInt]
    omega
  rw [w64_id (by omega) (by omega)]
  omega
/-- A number of the checkpoint, and a degree that is not below. -/
def estA (est : List Int) (j : Nat) : Int := ibits .and .i64 (est.getD j 0) 16777215
def degA (est more : List Int) (j : Nat) : Int := if j < more.length then min (estA est j + ibits .and .i64 (more.getD j 0) 7) 16777215 else estA est j
def estN (est : List Int) (i : Nat) : List Int := (List.range i).map (estA est)
def degN (est more : List Int) (i : Nat) : List Int := (List.range i).map (degA est more)
theorem estA_rng (est : List Int) (j : Nat) : 0 ≤ estA est j ∧ estA est j ≤ 16777215 := and_le _ 16777215 (by omega)
theorem degA_rng (est more : List Int) (j : Nat) : estA est j ≤ degA est more j ∧ degA est more j ≤ 16777215 := by
  have h1 := estA_rng est j
  have h2 : 0 ≤ ibits .and .i64 (more.getD j 0) 7 ∧ ibits .and .i64 (more.getD j 0) 7 ≤ 7 := and_le (more.getD j 0) 7 (by omega)
  unfold degA
  split <;> omega
theorem range_snoc (f : Nat → Int) (i : Nat) : (List.range (i + 1)).map f = (List.range i).map f ++ [f i] := by rw [List.range_succ, List.map_append]; rfl
end Go.V
namespace Go.Proofs.YtgigigchjnnonaaDoor
open Go Go.V
-- 7: pith/pithlaw18.fitting
-- 22: []int
-- 23: []bool
-- 3: int
-- 4: bool
-- 28: pith/api.Check
/-- What fitting makes of the numbers: the first 5000. -/
def fitN (est : List Int) : Nat := min est.length 5000
set_option maxHeartbeats 6400000 in
theorem F7 (u v w : Value) (est more : List Int) (ds : List Bool) (H : Heap) (hu : Ints H 3 .i64 u est) (hv : Bls H 4 v ds) (hw : Ints H 3 .i64 w more) :
    Fun Tryd.prog 7 #[u, v, w] H (fun r H' => ∃ a c d, r = .tuple #[.agg #[.int .i64 more.length, a, c], d] ∧ V.Own H' H.size 3 1 a ((estN est (fitN est)).map (.int .i64)) ∧ V.Own H' H.size 4 1 c ((ds.take 1000).map .bool) ∧ V.Own H' H.size 3 1 d ((degN est more (fitN est)).map (.int .i64)) ∧ Apart a d ∧ Ext H H') := by
  obtain ⟨u1, u2, rfl⟩ := hu.form
  obtain ⟨v1, v2, rfl⟩ := hv.form
  obtain ⟨w1, w2, rfl⟩ := hw.form
  refine fun_of mixed (args := [_, _, _]) Tryd.func7 Tryd.ntmps7 b7 r7 rfl ?_
  simp only [go_sem, ↓reduceIte, Nat.reduceEqDiff, Nat.reduceLeDiff, Nat.reduceAdd, Nat.reduceMul, Nat.reduceSub, Nat.reduceBEq, Nat.reduceGT, Nat.reduceLT, Int.reduceLE, Int.reduceLT, Int.reduceNeg, reduceCtorEq]
  let B := H.size + 2
  refine LoopI.by mixed (fun ρ H' => ∃ (i : Nat) (a d : Value), ρ 0 = .slice u1 est.length u2 ∧ ρ 1 = .slice v1 ds.length v2 ∧ ρ 2 = .slice w1 more.length w2 ∧ ρ 6 = .pointer (some ⟨H.size, 0, none⟩) ∧ ρ 8 = .pointer (some ⟨H.size + 1, 0, none⟩) ∧ ρ 9 = d ∧ ρ 10 = .int .i64 i ∧ i ≤ fitN est ∧
    H'[H.size]? = some (.cells #[.int .i64 0, .slice none 0 0, .slice none 0 0] 28) ∧ H'[H.size + 1]? = some (.cells #[.int .i64 0, a, .slice none 0 0] 28) ∧ V.Own H' (H.size + 2) 3 1 a ((estN est i).map (.int .i64)) ∧ V.Own H' (H.size + 2) 3 1 d ((degN est more i).map (.int .i64)) ∧ Apart a d ∧ Ext H H') (fun ρ _ => fitN est - (iof (ρ 10)).toNat) ?_ ?_
  · refine ⟨0, .slice none 0 0, .slice none 0 0, by simp only [go_sem, ↓reduceIte, Nat.reduceEqDiff, Nat.reduceLeDiff, Nat.reduceAdd, Nat.reduceMul, Nat.reduceSub, Nat.reduceBEq, Nat.reduceGT, Nat.reduceLT, Int.reduceLE, Int.reduceLT, Int.reduceNeg, reduceCtorEq], by simp only [go_sem, ↓reduceIte, Nat.reduceEqDiff, Nat.reduceLeDiff, Nat.reduceAdd, Nat.reduceMul, Nat.reduceSub, Nat.reduceBEq, Nat.reduceGT, Nat.reduceLT, Int.reduceLE, Int.reduceLT, Int.reduceNeg, reduceCtorEq], by simp only [go_sem, ↓reduceIte, Nat.reduceEqDiff, Nat.reduceLeDiff, Nat.reduceAdd, Nat.reduceMul, Nat.reduceSub, Nat.reduceBEq, Nat.reduceGT, Nat.reduceLT, Int.reduceLE, Int.reduceLT, Int.reduceNeg, reduceCtorEq], by simp only [go_sem, ↓reduceIte, Nat.reduceEqDiff, Nat.reduceLeDiff, Nat.reduceAdd, Nat.reduceMul, Nat.reduceSub, Nat.reduceBEq, Nat.reduceGT, Nat.reduceLT, Int.reduceLE, Int.reduceLT, Int.reduceNeg, reduceCtorEq], by simp only [go_sem, ↓reduceIte, Nat.reduceEqDiff, Nat.reduceLeDiff, Nat.reduceAdd, Nat.reduceMul, Nat.reduceSub, Nat.reduceBEq, Nat.reduceGT, Nat.reduceLT, Int.reduceLE, Int.reduceLT, Int.reduceNeg, reduceCtorEq]; simp, by simp only [go_sem, ↓reduceIte, Nat.reduceEqDiff, Nat.reduceLeDiff, Nat.reduceAdd, Nat.reduceMul, Nat.reduceSub, Nat.reduceBEq, Nat.reduceGT, Nat.reduceLT, Int.reduceLE, Int.reduceLT, Int.reduceNeg, reduceCtorEq], by simp only [go_sem, ↓reduceIte, Nat.reduceEqDiff, Nat.reduceLeDiff, Nat.reduceAdd, Nat.reduceMul, Nat.reduceSub, Nat.reduceBEq, Nat.reduceGT, Nat.reduceLT, Int.reduceLE, Int.reduceLT, Int.reduceNeg, reduceCtorEq]; rfl, Nat.zero_le _, ?_, ?_, Own.nil, Own.nil, .inl rfl, (Ext.push _).trans ((Ext.push _).mono (by simp))⟩
    · rw [push_old (by simp)]; exact push_new
    · have := push_new (H := H.push (.cells #[.int .i64 0, .slice none 0 0, .slice none 0 0] 28)) (x := .cells #[.int .i64 0, .slice none 0 0, .slice none 0 0] 28)
      simpa using this
  · rintro ρ H' ⟨i, a, d, e0, e1, e2, e6, e8, e9, e10, hi, k1, k2, oa, od, ad, hx⟩
    by_cases hlt : i < fitN est
    · have hlt1 : i < est.length := by unfold fitN at hlt; omega
      have hlt2 : i < 5000 := by unfold fitN at hlt; omega
      have c0 : (0 : Int) ≤ i := by omega
      have c1 : (i : Int) < est.length := by omega
      have c2 : (i : Int) < 5000 := by omega
      obtain ⟨b, o, rfl⟩ := hu.at hlt1
      have g1 := (hu.ext hx).get hlt1
      have ea : ibits .and .i64 (est.getD i 0) 16777215 = estA est i := rfl
      have k21 : hget H' (H.size + 1) 1 = some a := by rw [hget_cells k2]; rfl
      obtain ⟨xa, hxa⟩ : ∃ x, x = estA est i := ⟨_, rfl⟩
      have rA := estA_rng est i
      have rD := degA_rng est more i
      have r7 : 0 ≤ ibits .and .i64 (more.getD i 0) 7 ∧ ibits .and .i64 (more.getD i 0) 7 ≤ 7 := and_le (more.getD i 0) 7 (by omega)
      simp only [go_sem, ↓reduceIte, Nat.reduceEqDiff, Nat.reduceLeDiff, Nat.reduceAdd, Nat.reduceMul, Nat.reduceSub, Nat.reduceBEq, Nat.reduceGT, Nat.reduceLT, Int.reduceLE, Int.reduceLT, Int.reduceNeg, reduceCtorEq, c7_L0, e0, e1, e2, e8, e9, e10, c0, c1, c2, g1, ea, k21]
      refine RunI.by (append_lit ty22 ty3 rfl (by decide) oa (ys := [.int .i64 (estA est i)]) (m := 1) rfl rfl (n := i + 1) (by simp [estN]) (by omega) (by omega) (by have := hx.size; have := (Array.getElem?_eq_some_iff.1 k2).1; omega)) ?_
      rintro a2 H2 ⟨oa2, gr, _⟩
      rw [show [Value.int .i64 (estA est i)] = [estA est i].map (.int .i64) from rfl, ← List.map_append, show estN est i ++ [estA est i] = estN est (i + 1) from (range_snoc _ _).symm] at oa2
      have hsz : H.size + 2 ≤ H'.size := by have := (Array.getElem?_eq_some_iff.1 k2).1; omega
      have nb : ∀ g, blk a = some g → H.size + 2 ≤ g := fun g hg => (oa.blk hg).1
      have q1 : H2[H.size]? = some (.cells #[.int .i64 0, .slice none 0 0, .slice none 0 0] 28) := (gr.but.get _ (by omega) fun e => by have := nb _ e.symm; omega).trans k1
      have q2 : H2[H.size + 1]? = some (.cells #[.int .i64 0, a, .slice none 0 0] 28) := (gr.but.get _ (by omega) fun e => by have := nb _ e.symm; omega).trans k2
      have od2 : V.Own H2 (H.size + 2) 3 1 d ((degN est more i).map (.int .i64)) := od.out gr.but ad.symm
      have ad2 : Apart a2 d := by
        rcases gr.at' with e | ⟨g, e, hg⟩
        · rcases ad with h | h
          · exact .inl (e.trans h)
          · right; rw [e]; exact h
        · right; rw [e]; intro hd; have := (od.blk hd.symm).2.1; omega
      have x2 : Ext H H2 := hx.trans ((gr.upto oa hsz).mono (by omega))
      obtain ⟨p2, l2, rfl⟩ := Ints.form (xs := estN est (i + 1)) (k := .i64) oa2.sl
      obtain ⟨H3, hH3⟩ : ∃ H3, H3 = hput H2 (H.size + 1) 1 [.slice p2 (estN est (i + 1)).length l2] := ⟨_, rfl⟩
      have z2 : H.size + 2 ≤ H2.size := by have := gr.but.size; omega
      have t1 : H3[H.size]? = some (.cells #[.int .i64 0, .slice none 0 0, .slice none 0 0] 28) := by rw [hH3, hput_other _ _ _ _ (by omega)]; exact q1
      have t2 : H3[H.size + 1]? = some (.cells #[.int .i64 0, .slice p2 (estN est (i + 1)).length l2, .slice none 0 0] 28) := by rw [hH3]; exact hput_same q2
      have x3 : Ext H H3 := by rw [hH3]; exact x2.hput (by omega)
      have oa3 : V.Own H3 (H.size + 2) 3 1 (.slice p2 (estN est (i + 1)).length l2) ((estN est (i + 1)).map (.int .i64)) := oa2.keep fun g hg => by rw [hH3]; exact hput_other _ _ _ _ (by have := (oa2.blk hg).1; omega)
      have od3 : V.Own H3 (H.size + 2) 3 1 d ((degN est more i).map (.int .i64)) := od2.keep fun g hg => by rw [hH3]; exact hput_other _ _ _ _ (by have := (od2.blk hg).1; omega)
      have hcn : hcan H2 (H.size + 1) 1 1 := hcan_of q2 (by simp)
      have z3 : H.size + 2 ≤ H3.size := by have := (Array.getElem?_eq_some_iff.1 t2).1; omega
      have fin : ∀ (ρ' : Env) (d2 : Value) (H4 : Heap), V.Own H4 (H.size + 2) 3 1 d2 ((degN est more i).map (.int .i64) ++ [.int .i64 (degA est more i)]) → Grow d H3 d2 H4 →
          H4[H.size]? = some (.cells #[.int .i64 0, .slice none 0 0, .slice none 0 0] 28) ∧ H4[H.size + 1]? = some (.cells #[.int .i64 0, .slice p2 (estN est (i + 1)).length l2, .slice none 0 0] 28) ∧ V.Own H4 (H.size + 2) 3 1 (.slice p2 (estN est (i + 1)).length l2) ((estN est (i + 1)).map (.int .i64)) ∧ V.Own H4 (H.size + 2) 3 1 d2 ((degN est more (i + 1)).map (.int .i64)) ∧ Apart (.slice p2 (estN est (i + 1)).length l2) d2 ∧ Ext H H4 := by
        intro ρ' d2 H4 od4 gr4
        have nd : ∀ g, blk d = some g → H.size + 2 ≤ g := fun g hg => (od3.blk hg).1
        rw [show [Value.int .i64 (degA est more i)] = [degA est more i].map (.int .i64) from rfl, ← List.map_append, show degN est more i ++ [degA est more i] = degN est more (i + 1) from (range_snoc _ _).symm] at od4
        refine ⟨(gr4.but.get _ (by omega) fun e => by have := nd _ e.symm; omega).trans t1, (gr4.but.get _ (by omega) fun e => by have := nd _ e.symm; omega).trans t2, oa3.out gr4.but ad2, od4, ?_, x3.trans ((gr4.upto od3 z3).mono (by omega))⟩
        rcases gr4.at' with e | ⟨g, e, hg⟩
        · unfold Apart; rw [e]; exact ad2
        · refine (show Apart d2 _ from .inr ?_).symm
          rw [e]; intro ha; have := (oa3.blk ha.symm).2.1; omega
      have w9 : 9223372036854775807 ≥ (i : Int) + 1 := by unfold fitN at hlt; omega
      by_cases hm : i < more.length
      · obtain ⟨wb, wo, rfl⟩ := hw.at hm
        have c3 : (i : Int) < more.length := by omega
        have g3 := (hw.ext x3).get hm
        have eD : degA est more i = if 16777215 < estA est i + ibits .and .i64 (more.getD i 0) 7 then 16777215 else estA est i + ibits .and .i64 (more.getD i 0) 7 := by unfold degA; rw [if_pos hm]; split <;> omega
        have ew : IntKind.i64.wrap (estA est i + ibits .and .i64 (more.getD i 0) 7) = estA est i + ibits .and .i64 (more.getD i 0) 7 := w64_id (by omega) (by omega)
        simp only [go_sem, ↓reduceIte, Nat.reduceEqDiff, Nat.reduceLeDiff, Nat.reduceAdd, Nat.reduceMul, Nat.reduceSub, Nat.reduceBEq, Nat.reduceGT, Nat.reduceLT, Int.reduceLE, Int.reduceLT, Int.reduceNeg, reduceCtorEq, e2, e8, e9, e10, hcn, c0, c3]
        refine ⟨rfl, ?_⟩
        rw [← hH3]
        simp only [go_sem, ↓reduceIte, Nat.reduceEqDiff, Nat.reduceLeDiff, Nat.reduceAdd, Nat.reduceMul, Nat.reduceSub, Nat.reduceBEq, Nat.reduceGT, Nat.reduceLT, Int.reduceLE, Int.reduceLT, Int.reduceNeg, reduceCtorEq, e2, e8, e9, e10, g3, c0, c3, ew]
        rw [← eD]
        refine RunI.by (append_lit ty22 ty3 rfl (by decide) od3 (ys := [.int .i64 (degA est more i)]) (m := 1) rfl rfl (n := i + 1) (by simp [degN]) (by omega) (by omega) z3) ?_
        rintro d2 H4 ⟨od4, gr4, _⟩
        obtain ⟨f1, f2, f3, f4, f5, f6⟩ := fin ρ d2 H4 od4 gr4
        simp only [go_sem, ↓reduceIte, Nat.reduceEqDiff, Nat.reduceLeDiff, Nat.reduceAdd, Nat.reduceMul, Nat.reduceSub, Nat.reduceBEq, Nat.reduceGT, Nat.reduceLT, Int.reduceLE, Int.reduceLT, Int.reduceNeg, reduceCtorEq, e0, e1, e2, e6, e8, e9, e10]
        rw [w64_id (by omega) (by omega)]
        refine ⟨Hold.mk ⟨i + 1, _, d2, by simp only [go_sem, ↓reduceIte, Nat.reduceEqDiff, Nat.reduceLeDiff, Nat.reduceAdd, Nat.reduceMul, Nat.reduceSub, Nat.reduceBEq, Nat.reduceGT, Nat.reduceLT, Int.reduceLE, Int.reduceLT, Int.reduceNeg, reduceCtorEq, e0], by simp only [go_sem, ↓reduceIte, Nat.reduceEqDiff, Nat.reduceLeDiff, Nat.reduceAdd, Nat.reduceMul, Nat.reduceSub, Nat.reduceBEq, Nat.reduceGT, Nat.reduceLT, Int.reduceLE, Int.reduceLT, Int.reduceNeg, reduceCtorEq, e1], by simp only [go_sem, ↓reduceIte, Nat.reduceEqDiff, Nat.reduceLeDiff, Nat.reduceAdd, Nat.reduceMul, Nat.reduceSub, Nat.reduceBEq, Nat.reduceGT, Nat.reduceLT, Int.reduceLE, Int.reduceLT, Int.reduceNeg, reduceCtorEq, e2], by simp only [go_sem, ↓reduceIte, Nat.reduceEqDiff, Nat.reduceLeDiff, Nat.reduceAdd, Nat.reduceMul, Nat.reduceSub, Nat.reduceBEq, Nat.reduceGT, Nat.reduceLT, Int.reduceLE, Int.reduceLT, Int.reduceNeg, reduceCtorEq, e6], by simp only [go_sem, ↓reduceIte, Nat.reduceEqDiff, Nat.reduceLeDiff, Nat.reduceAdd, Nat.reduceMul, Nat.reduceSub, Nat.reduceBEq, Nat.reduceGT, Nat.reduceLT, Int.reduceLE, Int.reduceLT, Int.reduceNeg, reduceCtorEq, e8], by simp only [go_sem, ↓reduceIte, Nat.reduceEqDiff, Nat.reduceLeDiff, Nat.reduceAdd, Nat.reduceMul, Nat.reduceSub, Nat.reduceBEq, Nat.reduceGT, Nat.reduceLT, Int.reduceLE, Int.reduceLT, Int.reduceNeg, reduceCtorEq], by simp only [go_sem, ↓reduceIte, Nat.reduceEqDiff, Nat.reduceLeDiff, Nat.reduceAdd, Nat.reduceMul, Nat.reduceSub, Nat.reduceBEq, Nat.reduceGT, Nat.reduceLT, Int.reduceLE, Int.reduceLT, Int.reduceNeg, reduceCtorEq]; rfl, by omega, f1, f2, f3, f4, f5, f6⟩, by omega⟩
      · have c3 : ¬ (i : Int) < more.length := by omega
        have eD : degA est more i = estA est i := by unfold degA; rw [if_neg hm]
        simp only [go_sem, ↓reduceIte, Nat.reduceEqDiff, Nat.reduceLeDiff, Nat.reduceAdd, Nat.reduceMul, Nat.reduceSub, Nat.reduceBEq, Nat.reduceGT, Nat.reduceLT, Int.reduceLE, Int.reduceLT, Int.reduceNeg, reduceCtorEq, e2, e8, e9, e10, hcn, c3]
        refine ⟨rfl, ?_⟩
        rw [← hH3, ← eD]
        refine RunI.by (append_lit ty22 ty3 rfl (by decide) od3 (ys := [.int .i64 (degA est more i)]) (m := 1) rfl rfl (n := i + 1) (by simp [degN]) (by omega) (by omega) z3) ?_
        rintro d2 H4 ⟨od4, gr4, _⟩
        obtain ⟨f1, f2, f3, f4, f5, f6⟩ := fin ρ d2 H4 od4 gr4
        simp only [go_sem, ↓reduceIte, Nat.reduceEqDiff, Nat.reduceLeDiff, Nat.reduceAdd, Nat.reduceMul, Nat.reduceSub, Nat.reduceBEq, Nat.reduceGT, Nat.reduceLT, Int.reduceLE, Int.reduceLT, Int.reduceNeg, reduceCtorEq, e0, e1, e2, e6, e8, e9, e10]
        rw [w64_id (by omega) (by omega)]
        refine ⟨Hold.mk ⟨i + 1, _, d2, by simp only [go_sem, ↓reduceIte, Nat.reduceEqDiff, Nat.reduceLeDiff, Nat.reduceAdd, Nat.reduceMul, Nat.reduceSub, Nat.reduceBEq, Nat.reduceGT, Nat.reduceLT, Int.reduceLE, Int.reduceLT, Int.reduceNeg, reduceCtorEq, e0], by simp only [go_sem, ↓reduceIte, Nat.reduceEqDiff, Nat.reduceLeDiff, Nat.reduceAdd, Nat.reduceMul, Nat.reduceSub, Nat.reduceBEq, Nat.reduceGT, Nat.reduceLT, Int.reduceLE, Int.reduceLT, Int.reduceNeg, reduceCtorEq, e1], by simp only [go_sem, ↓reduceIte, Nat.reduceEqDiff, Nat.reduceLeDiff, Nat.reduceAdd, Nat.reduceMul, Nat.reduceSub, Nat.reduceBEq, Nat.reduceGT, Nat.reduceLT, Int.reduceLE, Int.reduceLT, Int.reduceNeg, reduceCtorEq, e2], by simp only [go_sem, ↓reduceIte, Nat.reduceEqDiff, Nat.reduceLeDiff, Nat.reduceAdd, Nat.reduceMul, Nat.reduceSub, Nat.reduceBEq, Nat.reduceGT, Nat.reduceLT, Int.reduceLE, Int.reduceLT, Int.reduceNeg, reduceCtorEq, e6], by simp only [go_sem, ↓reduceIte, Nat.reduceEqDiff, Nat.reduceLeDiff, Nat.reduceAdd, Nat.reduceMul, Nat.reduceSub, Nat.reduceBEq, Nat.reduceGT, Nat.reduceLT, Int.reduceLE, Int.reduceLT, Int.reduceNeg, reduceCtorEq, e8], by simp only [go_sem, ↓reduceIte, Nat.reduceEqDiff, Nat.reduceLeDiff, Nat.reduceAdd, Nat.reduceMul, Nat.reduceSub, Nat.reduceBEq, Nat.reduceGT, Nat.reduceLT, Int.reduceLE, Int.reduceLT, Int.reduceNeg, reduceCtorEq], by simp only [go_sem, ↓reduceIte, Nat.reduceEqDiff, Nat.reduceLeDiff, Nat.reduceAdd, Nat.reduceMul, Nat.reduceSub, Nat.reduceBEq, Nat.reduceGT, Nat.reduceLT, Int.reduceLE, Int.reduceLT, Int.reduceNeg, reduceCtorEq]; rfl, by omega, f1, f2, f3, f4, f5, f6⟩, by omega⟩
    · have hi5 : ¬ ((i : Int) < est.length ∧ (i : Int) < 5000) := by unfold fitN at hlt; omega
      have hie : i = fitN est := by omega
      subst hie
      rcases (by omega : ¬ ((fitN est : Int) < est.length) ∨ ((fitN est : Int) < est.length ∧ ¬ ((fitN est : Int) < 5000))) with c1 | ⟨c1, c2⟩
      case' inl => simp only [go_sem, ↓reduceIte, Nat.reduceEqDiff, Nat.reduceLeDiff, Nat.reduceAdd, Nat.reduceMul, Nat.reduceSub, Nat.reduceBEq, Nat.reduceGT, Nat.reduceLT, Int.reduceLE, Int.reduceLT, Int.reduceNeg, reduceCtorEq, c7_L0, e0, e10, c1]
      case' inr => simp only [go_sem, ↓reduceIte, Nat.reduceEqDiff, Nat.reduceLeDiff, Nat.reduceAdd, Nat.reduceMul, Nat.reduceSub, Nat.reduceBEq, Nat.reduceGT, Nat.reduceLT, Int.reduceLE, Int.reduceLT, Int.reduceNeg, reduceCtorEq, c7_L0, e0, e10, c1, c2]
      all_goals
        refine LoopI.by mixed (fun ρ H' => ∃ (j : Nat) (c : Value), ρ 1 = .slice v1 ds.length v2 ∧ ρ 2 = .slice w1 more.length w2 ∧ ρ 6 = .pointer (some ⟨H.size, 0, none⟩) ∧ ρ 8 = .pointer (some ⟨H.size + 1, 0, none⟩) ∧ ρ 9 = d ∧ ρ 12 = .int .i64 j ∧ j ≤ min ds.length 1000 ∧
          H'[H.size]? = some (.cells #[.int .i64 0, .slice none 0 0, .slice none 0 0] 28) ∧ H'[H.size + 1]? = some (.cells #[.int .i64 0, a, c] 28) ∧ V.Own H' (H.size + 2) 3 1 a ((estN est (fitN est)).map (.int .i64)) ∧ V.Own H' (H.size + 2) 4 1 c ((ds.take j).map .bool) ∧ V.Own H' (H.size + 2) 3 1 d ((degN est more (fitN est)).map (.int .i64)) ∧ Ext H H') (fun ρ _ => min ds.length 1000 - (iof (ρ 12)).toNat) ?_ ?_
        · exact ⟨0, .slice none 0 0, by simp only [go_sem, ↓reduceIte, Nat.reduceEqDiff, Nat.reduceLeDiff, Nat.reduceAdd, Nat.reduceMul, Nat.reduceSub, Nat.reduceBEq, Nat.reduceGT, Nat.reduceLT, Int.reduceLE, Int.reduceLT, Int.reduceNeg, reduceCtorEq, e1], by simp only [go_sem, ↓reduceIte, Nat.reduceEqDiff, Nat.reduceLeDiff, Nat.reduceAdd, Nat.reduceMul, Nat.reduceSub, Nat.reduceBEq, Nat.reduceGT, Nat.reduceLT, Int.reduceLE, Int.reduceLT, Int.reduceNeg, reduceCtorEq, e2], by simp only [go_sem, ↓reduceIte, Nat.reduceEqDiff, Nat.reduceLeDiff, Nat.reduceAdd, Nat.reduceMul, Nat.reduceSub, Nat.reduceBEq, Nat.reduceGT, Nat.reduceLT, Int.reduceLE, Int.reduceLT, Int.reduceNeg, reduceCtorEq, e6], by simp only [go_sem, ↓reduceIte, Nat.reduceEqDiff, Nat.reduceLeDiff, Nat.reduceAdd, Nat.reduceMul, Nat.reduceSub, Nat.reduceBEq, Nat.reduceGT, Nat.reduceLT, Int.reduceLE, Int.reduceLT, Int.reduceNeg, reduceCtorEq, e8], by simp only [go_sem, ↓reduceIte, Nat.reduceEqDiff, Nat.reduceLeDiff, Nat.reduceAdd, Nat.reduceMul, Nat.reduceSub, Nat.reduceBEq, Nat.reduceGT, Nat.reduceLT, Int.reduceLE, Int.reduceLT, Int.reduceNeg, reduceCtorEq, e9], by simp only [go_sem, ↓reduceIte, Nat.reduceEqDiff, Nat.reduceLeDiff, Nat.reduceAdd, Nat.reduceMul, Nat.reduceSub, Nat.reduceBEq, Nat.reduceGT, Nat.reduceLT, Int.reduceLE, Int.reduceLT, Int.reduceNeg, reduceCtorEq]; rfl, Nat.zero_le _, k1, k2, oa, Own.nil, od, hx⟩
        clear k1 k2 oa od hx e0 e1 e2 e6 e8 e9 e10
        rintro ρ H' ⟨j, c, e1, e2, e6, e8, e9, e12, hj, k1, k2, oa, oc, od, hx⟩
        by_cases hlt : j < min ds.length 1000
        · have d1 : (j : Int) < ds.length := by omega
          have d2 : (j : Int) < 1000 := by omega
          have d0 : (0 : Int) ≤ j := by omega
          obtain ⟨b, o, rfl⟩ := hv.at (show j < ds.length by omega)
          have g1 := (hv.ext hx).get (show j < ds.length by omega)
          have k22 : hget H' (H.size + 1) 2 = some c := by rw [hget_cells k2]; rfl
          simp only [go_sem, ↓reduceIte, Nat.reduceEqDiff, Nat.reduceLeDiff, Nat.reduceAdd, Nat.reduceMul, Nat.reduceSub, Nat.reduceBEq, Nat.reduceGT, Nat.reduceLT, Int.reduceLE, Int.reduceLT, Int.reduceNeg, reduceCtorEq, ext_push, ext_refl, c7_L1, e1, e8, e12, d0, d1, d2, k22, g1]
          have hsz : H.size + 2 ≤ H'.size := by have := (Array.getElem?_eq_some_iff.1 k2).1; omega
          refine RunI.by (append_lit ty23 ty4 rfl (by decide) oc (ys := [.bool (ds.getD j false)]) (m := 1) rfl rfl (n := j + 1) (by simp; omega) (by omega) (by omega) hsz) ?_
          rintro c2 H2 ⟨oc2, gr, _⟩
          rw [show [Value.bool (ds.getD j false)] = [ds.getD j false].map .bool from rfl, ← List.map_append, ← take_succ_getD (show j < ds.length by omega) false] at oc2
          have nb : ∀ g, blk c = some g → H.size + 2 ≤ g := fun g hg => (oc.blk hg).1
          have q1 : H2[H.size]? = some (.cells #[.int .i64 0, .slice none 0 0, .slice none 0 0] 28) := (gr.but.get _ (by omega) fun e => by have := nb _ e.symm; omega).trans k1
          have q2 : H2[H.size + 1]? = some (.cells #[.int .i64 0, a, c] 28) := (gr.but.get _ (by omega) fun e => by have := nb _ e.symm; omega).trans k2
          have oa2 := oa.byTag oc gr.but (by decide)
          have od2 := od.byTag oc gr.but (by decide)
          have x2 : Ext H H2 := hx.trans ((gr.upto oc hsz).mono (by omega))
          obtain ⟨p2, l2, rfl⟩ := Bls.form (bs := ds.take (j + 1)) oc2.sl
          obtain ⟨H3, hH3⟩ : ∃ H3, H3 = hput H2 (H.size + 1) 2 [.slice p2 (ds.take (j + 1)).length l2] := ⟨_, rfl⟩
          have z2 : H.size + 2 ≤ H2.size := by have := gr.but.size; omega
          have t1 : H3[H.size]? = some (.cells #[.int .i64 0, .slice none 0 0, .slice none 0 0] 28) := by rw [hH3, hput_other _ _ _ _ (by omega)]; exact q1
          have t2 : H3[H.size + 1]? = some (.cells #[.int .i64 0, a, .slice p2 (ds.take (j + 1)).length l2] 28) := by rw [hH3]; exact hput_same q2
          have x3 : Ext H H3 := by rw [hH3]; exact x2.hput (by omega)
          have oa3 := oa2.keep (H' := H3) fun g hg => by rw [hH3]; exact hput_other _ _ _ _ (by have := (oa2.blk hg).1; omega)
          have od3 := od2.keep (H' := H3) fun g hg => by rw [hH3]; exact hput_other _ _ _ _ (by have := (od2.blk hg).1; omega)
          have oc3 := oc2.keep (H' := H3) fun g hg => by rw [hH3]; exact hput_other _ _ _ _ (by have := (oc2.blk hg).1; omega)
          have hcn : hcan H2 (H.size + 1) 2 1 := hcan_of q2 (by simp)
          simp only [go_sem, ↓reduceIte, Nat.reduceEqDiff, Nat.reduceLeDiff, Nat.reduceAdd, Nat.reduceMul, Nat.reduceSub, Nat.reduceBEq, Nat.reduceGT, Nat.reduceLT, Int.reduceLE, Int.reduceLT, Int.reduceNeg, reduceCtorEq, e1, e2, e6, e8, e9, e12, hcn]
          refine ⟨rfl, ?_⟩
          rw [← hH3]
          rw [w64_id (by omega) (by omega)]
          exact ⟨Hold.mk ⟨j + 1, _, by simp only [go_sem, ↓reduceIte, Nat.reduceEqDiff, Nat.reduceLeDiff, Nat.reduceAdd, Nat.reduceMul, Nat.reduceSub, Nat.reduceBEq, Nat.reduceGT, Nat.reduceLT, Int.reduceLE, Int.reduceLT, Int.reduceNeg, reduceCtorEq, e1], by simp only [go_sem, ↓reduceIte, Nat.reduceEqDiff, Nat.reduceLeDiff, Nat.reduceAdd, Nat.reduceMul, Nat.reduceSub, Nat.reduceBEq, Nat.reduceGT, Nat.reduceLT, Int.reduceLE, Int.reduceLT, Int.reduceNeg, reduceCtorEq, e2], by simp only [go_sem, ↓reduceIte, Nat.reduceEqDiff, Nat.reduceLeDiff, Nat.reduceAdd, Nat.reduceMul, Nat.reduceSub, Nat.reduceBEq, Nat.reduceGT, Nat.reduceLT, Int.reduceLE, Int.reduceLT, Int.reduceNeg, reduceCtorEq, e6], by simp only [go_sem, ↓reduceIte, Nat.reduceEqDiff, Nat.reduceLeDiff, Nat.reduceAdd, Nat.reduceMul, Nat.reduceSub, Nat.reduceBEq, Nat.reduceGT, Nat.reduceLT, Int.reduceLE, Int.reduceLT, Int.reduceNeg, reduceCtorEq, e8], by simp only [go_sem, ↓reduceIte, Nat.reduceEqDiff, Nat.reduceLeDiff, Nat.reduceAdd, Nat.reduceMul, Nat.reduceSub, Nat.reduceBEq, Nat.reduceGT, Nat.reduceLT, Int.reduceLE, Int.reduceLT, Int.reduceNeg, reduceCtorEq, e9], by simp only [go_sem, ↓reduceIte, Nat.reduceEqDiff, Nat.reduceLeDiff, Nat.reduceAdd, Nat.reduceMul, Nat.reduceSub, Nat.reduceBEq, Nat.reduceGT, Nat.reduceLT, Int.reduceLE, Int.reduceLT, Int.reduceNeg, reduceCtorEq]; rfl, by omega, t1, t2, oa3, oc3, od3, x3⟩, by omega⟩
        · have hje : j = min ds.length 1000 := by omega
          subst hje
          rcases (by omega : ¬ (((min ds.length 1000 : Nat) : Int) < ds.length) ∨ (((min ds.length 1000 : Nat) : Int) < ds.length ∧ ¬ (((min ds.length 1000 : Nat) : Int) < 1000))) with d1 | ⟨d1, d2⟩
          case' inl => simp only [go_sem, ↓reduceIte, Nat.reduceEqDiff, Nat.reduceLeDiff, Nat.reduceAdd, Nat.reduceMul, Nat.reduceSub, Nat.reduceBEq, Nat.reduceGT, Nat.reduceLT, Int.reduceLE, Int.reduceLT, Int.reduceNeg, reduceCtorEq, c7_L1, e1, e2, e6, e8, e9, e12, d1]
          case' inr => simp only [go_sem, ↓reduceIte, Nat.reduceEqDiff, Nat.reduceLeDiff, Nat.reduceAdd, Nat.reduceMul, Nat.reduceSub, Nat.reduceBEq, Nat.reduceGT, Nat.reduceLT, Int.reduceLE, Int.reduceLT, Int.reduceNeg, reduceCtorEq, c7_L1, e1, e2, e6, e8, e9, e12, d1, d2]
          all_goals
            obtain ⟨p1, l1, rfl⟩ := Ints.form (xs := estN est (fitN est)) (k := .i64) oa.sl
            obtain ⟨p2, l2, rfl⟩ := Bls.form (bs := ds.take (min ds.length 1000)) oc.sl
            obtain ⟨H3, hH3⟩ : ∃ H3, H3 = hput H' (H.size + 1) 0 [.int .i64 more.length] := ⟨_, rfl⟩
            have t1 : H3[H.size]? = some (.cells #[.int .i64 0, .slice none 0 0, .slice none 0 0] 28) := by rw [hH3, hput_other _ _ _ _ (by omega)]; exact k1
            have t2 : H3[H.size + 1]? = some (.cells #[.int .i64 more.length, .slice p1 (estN est (fitN est)).length l1, .slice p2 (ds.take (min ds.length 1000)).length l2] 28) := by rw [hH3]; exact hput_same k2
            have x3 : Ext H H3 := by rw [hH3]; exact hx.hput (by omega)
            have j0 : hget H3 (H.size + 1) 0 = some (.int .i64 more.length) := by rw [hget_cells t2]; rfl
            have j1 : hget H3 (H.size + 1) 1 = some (.slice p1 (estN est (fitN est)).length l1) := by rw [hget_cells t2]; rfl
            have j2 : hget H3 (H.size + 1) 2 = some (.slice p2 (ds.take (min ds.length 1000)).length l2) := by rw [hget_cells t2]; rfl
            refine ⟨rfl, hcan_of k2 (by simp), ?_⟩
            rw [← hH3]
            simp only [go_sem, ↓reduceIte, Nat.reduceEqDiff, Nat.reduceLeDiff, Nat.reduceAdd, Nat.reduceMul, Nat.reduceSub, Nat.reduceBEq, Nat.reduceGT, Nat.reduceLT, Int.reduceLE, Int.reduceLT, Int.reduceNeg, reduceCtorEq, e6, e8, e9, j0, j1, j2]
            refine ⟨rfl, hcan_of t1 (by simp), ?_⟩
            have nH : ∀ g, H.size + 2 ≤ g → g ≠ H.size := fun g hg e => by omega
            have nH1 : ∀ g, H.size + 2 ≤ g → g ≠ H.size + 1 := fun g hg e => by omega
            have oa3 := oa.keep (H' := H3) fun g hg => by rw [hH3]; exact hput_other _ _ _ _ (nH1 g (oa.blk hg).1)
            have od3 := od.keep (H' := H3) fun g hg => by rw [hH3]; exact hput_other _ _ _ _ (nH1 g (od.blk hg).1)
            have oc3 := oc.keep (H' := H3) fun g hg => by rw [hH3]; exact hput_other _ _ _ _ (nH1 g (oc.blk hg).1)
            rw [show ds.take (min ds.length 1000) = ds.take 1000 by rw [List.take_eq_take_iff]; omega] at *
            simp only [loadV, ty28]
            refine ⟨_, hgets_put t1 (by simp) rfl, _, _, _, rfl, (oa3.keep fun g hg => hput_other _ _ _ _ (nH g (oa3.blk hg).1)).mono (by omega), (oc3.keep fun g hg => hput_other _ _ _ _ (nH g (oc3.blk hg).1)).mono (by omega), (od3.keep fun g hg => hput_other _ _ _ _ (nH g (od3.blk hg).1)).mono (by omega), ad, x3.hput (Nat.le_refl _)⟩
end Go.Proofs.YtgigigchjnnonaaDoor
