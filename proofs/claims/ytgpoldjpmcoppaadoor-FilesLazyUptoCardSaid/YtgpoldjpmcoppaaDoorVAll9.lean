/- All: a file's payloads, handed to a yield that may turn the file. -/
import Derived.Test.YtgpoldjpmcoppaaDoorVLoad
set_option linter.unusedSimpArgs false
set_option linter.unusedVariables false
set_option maxRecDepth 20000
namespace Go.Proofs.YtgpoldjpmcoppaaDoor
open Go Go.V
-- 40: (*pith/files.Reader).payloads
-- 70: (*pith/files.Reader).payloads$1
-- 39: pith/files.Open
-- 28: pith/files.All
-- 53: pith/files.All$1
-- 5: uint8
-- 22: []uint8
-- 9: string
-- 25: *fs.FS
-- 78: *files.Reader
-- 107: func([]uint8) bool
theorem F28 (b : Nat) (n : Nm) (H : Heap) : Fun Tryd.prog 28 #[ptrOf b, .string n] H (fun r H' => r = .func (.func 53) #[] #[ptrOf H.size, ptrOf (H.size + 1)] ∧ H' = (H.push (.cells #[ptrOf b] 25)).push (.cells #[.string n] 9)) := by
  refine fun_of mixed (args := [_, _]) Tryd.func28 Tryd.ntmps28 b28 r28 rfl ?_
  simp only [go_sem, ↓reduceIte, Nat.reduceEqDiff, Nat.reduceLeDiff, Nat.reduceAdd, Nat.reduceMul, Nat.reduceSub, Nat.reduceBEq, Nat.reduceGT, Nat.reduceLT, Int.reduceLE, Int.reduceLT, Int.reduceNeg, reduceCtorEq, ptrOf, Array.size_push]
set_option maxHeartbeats 3200000 in
theorem F53 {σ : Type} {S : σ → St} {Fp N : σ → Nat → Prop} {J : σ → Heap → Prop} {R : σ → RdS → Prop} {E : σ → Prop} {b c1 c2 l : Nat} {n : Nm} {H : Heap} (a0 : σ)
    (good : ∀ a Hh, J a Hh → FsH Hh (Fp a) b (S a) ∧ Ok (S a) ∧ CrcTab Hh ∧ (∀ g, Fp a g → N a g) ∧ (∀ g, N a g → g < Hh.size))
    (stab : ∀ a Hh Hh', J a Hh → Hh.size ≤ Hh'.size → (∀ g, N a g → Hh'[g]? = Hh[g]?) → J a Hh')
    (hend : ∀ a x, R a x → ((nextR (S a) x).2.2.2 ≠ 0 ∨ (nextR (S a) x).2.2.1 = false) → E a)
    (hyield : ∀ a x Hh u, J a Hh → R a x → (nextR (S a) x).2.2.2 = 0 → (nextR (S a) x).2.2.1 = true → V.Own Hh 0 5 1 u ((nextR (S a) x).2.1.map (.int .u8)) → (∀ g, blk u = some g → ¬ N a g) →
      YieldF Tryd.prog l #[u] Hh (fun v H2 => ∃ t a', v = .bool t ∧ J a' H2 ∧ Hh.size ≤ H2.size ∧ (∀ g, g < Hh.size → ¬ N a g → blk u ≠ some g → H2[g]? = Hh[g]?) ∧ (∀ g, N a' g → N a g ∨ Hh.size ≤ g ∨ blk u = some g) ∧ if t = true then R a' (nextR (S a) x).1 else E a'))
    (h0 : J a0 H) (hopen : (openF (S a0) n).2.2 = 0 → R a0 (openF (S a0) n).1) (hfail : (openF (S a0) n).2.2 ≠ 0 → E a0)
    (hc1 : H[c1]? = some (.cells #[ptrOf b] 25)) (hc2 : H[c2]? = some (.cells #[.string n] 9)) :
    Fun Tryd.prog 53 #[.func (.yield l) #[] #[], ptrOf c1, ptrOf c2] H (fun _ H' => ∃ a', J a' H' ∧ E a') := by
  refine fun_ofR mixed (args := [_, _, _]) Tryd.func53 Tryd.ntmps53 b53 r53 rfl ?_
  obtain ⟨h, ok, ht, hFN, hNl⟩ := good a0 H h0
  have x1 : Ext H (H.push (.cells #[.func (.yield l) #[] #[]] 107)) := Ext.push _
  have k3 : (H.push (.cells #[.func (.yield l) #[] #[]] 107))[H.size]? = some (.cells #[.func (.yield l) #[] #[]] 107) := push_new
  have s1 : (H.push (.cells #[.func (.yield l) #[] #[]] 107)).size = H.size + 1 := by simp
  obtain ⟨H1, hH1⟩ : ∃ H1, H1 = H.push (.cells #[.func (.yield l) #[] #[]] 107) := ⟨_, rfl⟩
  rw [← hH1] at x1 k3 s1
  have q1 : hget H1 c1 0 = some (ptrOf b) := hget_cells (x1.old hc1)
  have q2 : hget H1 c2 0 = some (.string n) := hget_cells (x1.old hc2)
  simp only [ptrOf] at q1
  simp only [go_sem, ↓reduceIte, Nat.reduceEqDiff, Nat.reduceLeDiff, Nat.reduceAdd, Nat.reduceMul, Nat.reduceSub, Nat.reduceBEq, Nat.reduceGT, Nat.reduceLT, Int.reduceLE, Int.reduceLT, Int.reduceNeg, reduceCtorEq, ptrOf, ← hH1, q1, q2]
  refine FunI.by (F39 (h.ext x1) ok (ht.ext x1)) ?_
  rintro _ H2 ⟨p, u, rfl, ou, h2, x2, hp⟩
  have x12 : Ext H H2 := Upto.ext x1 x1.size x2
  have j2 : J a0 H2 := stab a0 H H2 h0 x12.size fun g hg => x12.get g (hNl g hg)
  have k3 := x2.old k3
  have s2 := x2.size
  obtain ⟨pa, pl, pc, rfl⟩ := ou.sl.form
  by_cases c0 : (openF (S a0) n).2.2 ≠ 0
  · rw [if_neg c0] at hp
    subst hp
    simp only [go_sem, ↓reduceIte, Nat.reduceEqDiff, Nat.reduceLeDiff, Nat.reduceAdd, Nat.reduceMul, Nat.reduceSub, Nat.reduceBEq, Nat.reduceGT, Nat.reduceLT, Int.reduceLE, Int.reduceLT, Int.reduceNeg, reduceCtorEq, c0]
    exact ⟨a0, j2, hfail c0⟩
  have c0' := Classical.not_not.1 c0
  rw [if_pos c0'] at hp
  obtain ⟨w, rfl, hw, hwR⟩ := hp
  simp only [go_sem, ↓reduceIte, Nat.reduceEqDiff, Nat.reduceLeDiff, Nat.reduceAdd, Nat.reduceMul, Nat.reduceSub, Nat.reduceBEq, Nat.reduceGT, Nat.reduceLT, Int.reduceLE, Int.reduceLT, Int.reduceNeg, reduceCtorEq, c0', ptrOf]
  refine FunI.by (F40 w _) ?_
  rintro _ _ ⟨rfl, rfl⟩
  simp only [go_sem, ↓reduceIte, Nat.reduceEqDiff, Nat.reduceLeDiff, Nat.reduceAdd, Nat.reduceMul, Nat.reduceSub, Nat.reduceBEq, Nat.reduceGT, Nat.reduceLT, Int.reduceLE, Int.reduceLT, Int.reduceNeg, reduceCtorEq]
  have x3 : Ext H2 (H2.push (.cells #[ptrOf w] 78)) := Ext.push _
  have kc : (H2.push (.cells #[ptrOf w] 78))[H2.size]? = some (.cells #[ptrOf w] 78) := push_new
  have s3 : (H2.push (.cells #[ptrOf w] 78)).size = H2.size + 1 := by simp
  obtain ⟨H3, hH3⟩ : ∃ H3, H3 = H2.push (.cells #[ptrOf w] 78) := ⟨_, rfl⟩
  rw [← hH3] at x3 kc s3 ⊢
  clear hH3
  refine RangeRI.by mixed (gf := 70) (lb := #[ptrOf H2.size]) (by simp only [go_sem, ↓reduceIte, Nat.reduceEqDiff, Nat.reduceLeDiff, Nat.reduceAdd, Nat.reduceMul, Nat.reduceSub, Nat.reduceBEq, Nat.reduceGT, Nat.reduceLT, Int.reduceLE, Int.reduceLT, Int.reduceNeg, reduceCtorEq, ptrOf]) (by simp only [go_sem, ↓reduceIte, Nat.reduceEqDiff, Nat.reduceLeDiff, Nat.reduceAdd, Nat.reduceMul, Nat.reduceSub, Nat.reduceBEq, Nat.reduceGT, Nat.reduceLT, Int.reduceLE, Int.reduceLT, Int.reduceNeg, reduceCtorEq]) (by decide) ?_
  intro r hy
  show Fun _ _ #[_, _] _ _
  have x34 : Ext H3 ((H3.push (.deferred (some []))).push (.loop r)) := Upto.push (Ext.push _) (by simp) _
  have kD : ((H3.push (.deferred (some []))).push (.loop r))[H3.size]? = some (.deferred (some [])) := by rw [push_old (by simp)]; exact push_new
  have kl : ((H3.push (.deferred (some []))).push (.loop r))[H3.size + 1]? = some (.loop r) := by
    have := push_new (H := H3.push (.deferred (some []))) (x := .loop r)
    simpa using this
  have s4 : ((H3.push (.deferred (some []))).push (.loop r)).size = H3.size + 2 := by simp
  obtain ⟨H4, hH4⟩ : ∃ H4, H4 = ((H3.push (.deferred (some []))).push (.loop r)) := ⟨_, rfl⟩
  rw [← hH4] at x34 kD kl s4 ⊢
  clear hH4
  have x24 : Ext H2 H4 := Upto.ext x3 x3.size x34
  have x04 : Ext H H4 := Upto.ext x12 x12.size x24
  have j4 : J a0 H4 := stab a0 H H4 h0 x04.size fun g hg => x04.get g (hNl g hg)
  have hop := open_at ok n c0'
  have hwlt : w < H2.size := (Array.getElem?_eq_some_iff.1 hwR).1
  have hs1 := x1.size
  have hw3 : w ≠ H.size := by
    rintro rfl
    have : RdH H2 H.size b (openF (S a0) n).1 := hwR
    unfold RdH at this
    rw [k3] at this
    simp only [Option.some.injEq, Obj.cells.injEq] at this
    exact absurd this.2.1 (by decide)
  refine F70 (σ := σ × RdS) (S := fun p => S p.1) (X := Prod.snd) (Fp := fun p => Fp p.1) (b := b) (w := w) (c := H2.size) (l := H3.size + 1)
    (J := fun p Hh => J p.1 Hh ∧ RdH Hh w b p.2 ∧ Hh[H.size]? = some (.cells #[.func (.yield l) #[] #[]] 107) ∧ Hh[H2.size]? = some (.cells #[ptrOf w] 78) ∧ Hh[H3.size + 1]? = some (.loop r) ∧ Hh[H3.size]? = some (.deferred (some [])) ∧
      (¬ N p.1 w ∧ ¬ N p.1 H.size ∧ ¬ N p.1 H2.size ∧ ¬ N p.1 (H3.size + 1) ∧ ¬ N p.1 H3.size) ∧ 12 ≤ p.2.at' ∧ p.2.at' ≤ 2147483647 ∧ 0 ≤ p.2.data ∧ p.2.data ≤ p.2.at' ∧ R p.1 p.2 ∧ H4.size ≤ Hh.size) (a0, (openF (S a0) n).1) ?_ ?_ ?_
  · have nn : ∀ g, H.size ≤ g → ¬ N a0 g := fun g hg e => by have := hNl g e; omega
    exact ⟨j4, x24.old hwR, x24.old k3, x34.old kc, kl, kD, ⟨nn _ (by omega), nn _ (Nat.le_refl _), nn _ (by omega), nn _ (by omega), nn _ (by omega)⟩, hop.1, hop.2.1, by rw [hop.2.2.1]; exact Int.le_refl _, by rw [hop.2.2.1]; have := hop.1; simp only; omega, hopen c0', Nat.le_refl _⟩
  · rintro ⟨a, x⟩ Hh ⟨p1, p2, p3, p4, p5, p6, ⟨p7, p8, p9, p10, p11⟩, p12, p13, p14, p15, p16, p17⟩
    obtain ⟨g1, g2, g3, g4, g5⟩ := good a Hh p1
    simp only at p2 p7 p12 p13 p14 p15 ⊢
    exact ⟨g1, g2, p2, fun e => p7 (g4 w e), g3, by omega, p13, p14, p15, p4⟩
  · rintro ⟨a, x⟩ Hh Hn u ⟨p1, p2, p3, p4, p5, p6, ⟨p7, p8, p9, p10, p11⟩, p12, p13, p14, p15, p16, p17⟩ hf1 hw1 cx on
    simp only at p1 p2 p7 p8 p9 p10 p11 p12 p13 p14 p15 p16 p17 hf1 hw1 on ⊢
    obtain ⟨g1, g2, g3, g4, g5⟩ := good a Hh p1
    have jn : J a Hn := stab a Hh Hn p1 cx.size fun g hg => cx.get g (g5 g hg) (fun e => e) (by rintro rfl; exact p7 hg)
    have n3 : Hn[H.size]? = _ := cx.keep p3 (fun e => e) (Ne.symm hw3)
    have nl : Hn[H3.size + 1]? = some (.loop r) := cx.keep p5 (fun e => e) (by omega)
    have nD : Hn[H3.size]? = some (.deferred (some [])) := cx.keep p6 (fun e => e) (by omega)
    have nc : Hn[H2.size]? = some (.cells #[ptrOf w] 78) := cx.keep p4 (fun e => e) (by omega)
    have hE := hend a x p16
    have hY := fun u Hh => hyield a x Hh u
    have hnm := nextR_more g2 (x := x) (by omega)
    obtain ⟨q, hq⟩ : ∃ q, q = nextR (S a) x := ⟨_, rfl⟩
    rw [← hq] at hE hnm hw1 on ⊢
    simp only [← hq] at hY
    clear hq
    obtain ⟨ua, ul, uc, rfl⟩ := on.sl.form
    have cs := cx.size
    by_cases c1 : q.2.2.2 ≠ 0
    · rw [if_pos c1]
      refine hy nl rfl ?_
      simp only [c53_L0, c53_L1, go_sem, ↓reduceIte, Nat.reduceEqDiff, Nat.reduceLeDiff, Nat.reduceAdd, Nat.reduceMul, Nat.reduceSub, Nat.reduceBEq, Nat.reduceGT, Nat.reduceLT, Int.reduceLE, Int.reduceLT, Int.reduceNeg, reduceCtorEq, zipL, Array.toList_zip, List.zip, List.zipWith, c1]
      have bl : (hset Hn (H3.size + 1) (.loop { r with state := .busy }))[H3.size + 1]? = _ := hset_same nl
      have bD : (hset Hn (H3.size + 1) (.loop { r with state := .busy }))[H3.size]? = _ := (hset_other (by omega)).trans nD
      refine ⟨nl, bl, .inr ⟨.ret, by simp, hset_same bl, ?_⟩⟩
      simp only [go_sem, ↓reduceIte, Nat.reduceEqDiff, Nat.reduceLeDiff, Nat.reduceAdd, Nat.reduceMul, Nat.reduceSub, Nat.reduceBEq, Nat.reduceGT, Nat.reduceLT, Int.reduceLE, Int.reduceLT, Int.reduceNeg, reduceCtorEq]
      rw [doneR_cons]
      simp only [go_sem, ↓reduceIte, Nat.reduceEqDiff, Nat.reduceLeDiff, Nat.reduceAdd, Nat.reduceMul, Nat.reduceSub, Nat.reduceBEq, Nat.reduceGT, Nat.reduceLT, Int.reduceLE, Int.reduceLT, Int.reduceNeg, reduceCtorEq]
      refine ⟨?_, a, stab a Hn _ jn (by simp only [hset_size]; exact Nat.le_refl _) fun g hg => ?_, hE (.inl c1)⟩
      · simp (disch := omega) only [hset_other, bD]
      · have e1 : g ≠ H3.size + 1 := by rintro rfl; exact p10 hg
        have e2 : g ≠ H3.size := by rintro rfl; exact p11 hg
        simp (disch := omega) only [hset_other]
    rw [if_neg c1]
    have c1' := Classical.not_not.1 c1
    by_cases c2 : q.2.2.1 = true
    · rw [if_pos c2]
      refine hy nl rfl ?_
      have bl : (hset Hn (H3.size + 1) (.loop { r with state := .busy }))[H3.size + 1]? = _ := hset_same nl
      have b3 : (hset Hn (H3.size + 1) (.loop { r with state := .busy }))[H.size]? = _ := (hset_other (by omega)).trans n3
      have bD : (hset Hn (H3.size + 1) (.loop { r with state := .busy }))[H3.size]? = _ := (hset_other (by omega)).trans nD
      have bc : (hset Hn (H3.size + 1) (.loop { r with state := .busy }))[H2.size]? = _ := (hset_other (by omega)).trans nc
      have bw : RdH (hset Hn (H3.size + 1) (.loop { r with state := .busy })) w b q.1 := by unfold RdH; rw [hset_other (by omega)]; exact hw1
      have bsz : (hset Hn (H3.size + 1) (.loop { r with state := .busy })).size = Hn.size := hset_size _ _ _
      have bx : ∀ g, g ≠ H3.size + 1 → (hset Hn (H3.size + 1) (.loop { r with state := .busy }))[g]? = Hn[g]? := fun g hg => hset_other hg
      obtain ⟨Hb, hHb⟩ : ∃ Hb, Hb = hset Hn (H3.size + 1) (.loop { r with state := .busy }) := ⟨_, rfl⟩
      rw [← hHb] at bl b3 bD bc bw bsz bx
      have q3 : hget Hb H.size 0 = some (.func (.yield l) #[] #[]) := hget_cells b3
      simp only [c53_L0, c53_L1, go_sem, ↓reduceIte, Nat.reduceEqDiff, Nat.reduceLeDiff, Nat.reduceAdd, Nat.reduceMul, Nat.reduceSub, Nat.reduceBEq, Nat.reduceGT, Nat.reduceLT, Int.reduceLE, Int.reduceLT, Int.reduceNeg, reduceCtorEq, zipL, Array.toList_zip, List.zip, List.zipWith, ← hHb, q3]
      refine ⟨nl, ?_⟩
      have onb : V.Own Hb 0 5 1 (.slice ua ul uc) (q.2.1.map (.int .u8)) := (on.mono (Nat.zero_le _)).keep fun g hg => bx g (by have := (on.blk hg).1; omega)
      have jb : J a Hb := stab a Hn Hb jn (by omega) fun g hg => bx g (by rintro rfl; exact p10 hg)
      have ufresh : ∀ g, blk (.slice ua ul uc) = some g → Hh.size ≤ g := fun g hg => (on.blk hg).1
      refine YieldI.by (hY _ Hb jb p16 c1' c2 onb fun g hg e => by have := ufresh g hg; have := g5 g e; omega) ?_
      rintro v H5 ⟨t, a', rfl, j5, y1, y2, y3, y4⟩
      have notN : ∀ g, g < Hh.size → ¬ N a g → ¬ N a' g := fun g h1 h2 e => by
        rcases y3 g e with e | e | e
        · exact h2 e
        · omega
        · have := ufresh g e; omega
      have same : ∀ g, g < Hh.size → ¬ N a g → H5[g]? = Hb[g]? := fun g h1 h2 => y2 g (by omega) h2 (fun e => by have := ufresh g e; omega)
      have d3 : H5[H.size]? = _ := (same _ (by omega) p8).trans b3
      have dc : H5[H2.size]? = _ := (same _ (by omega) p9).trans bc
      have dl : H5[H3.size + 1]? = _ := (same _ (by omega) p10).trans bl
      have dD : H5[H3.size]? = _ := (same _ (by omega) p11).trans bD
      have dw : RdH H5 w b q.1 := by unfold RdH; rw [same _ (by omega) p7]; exact bw
      have z1 := notN _ (by omega) p7
      have z2 := notN _ (by omega) p8
      have z3 := notN _ (by omega) p9
      have z4 := notN _ (by omega) p10
      have z5 := notN _ (by omega) p11
      obtain ⟨m1, m2, m3, m4⟩ := hnm c2
      cases t with
      | true =>
        rw [if_pos rfl] at y4
        simp only [go_sem, ↓reduceIte, Nat.reduceEqDiff, Nat.reduceLeDiff, Nat.reduceAdd, Nat.reduceMul, Nat.reduceSub, Nat.reduceBEq, Nat.reduceGT, Nat.reduceLT, Int.reduceLE, Int.reduceLT, Int.reduceNeg, reduceCtorEq]
        refine ⟨dl, true, rfl, ?_⟩
        rw [if_pos rfl]
        have fx : ∀ g, g ≠ H3.size + 1 → (hset H5 (H3.size + 1) (.loop r))[g]? = H5[g]? := fun g hg => hset_other hg
        refine ⟨(a', q.1), ⟨stab a' H5 _ j5 (by rw [hset_size]; exact Nat.le_refl _) fun g hg => fx g (by rintro rfl; exact z4 hg), ?_, (fx _ (by omega)).trans d3, (fx _ (by omega)).trans dc, hset_same dl, (fx _ (by omega)).trans dD, ⟨z1, z2, z3, z4, z5⟩, by simp only; omega, m2, by simp only; omega, by simp only; omega, y4, by rw [hset_size]; omega⟩, rfl⟩
        unfold RdH
        rw [fx _ (by omega)]
        exact dw
      | false =>
        rw [if_neg (by decide)] at y4
        simp only [go_sem, ↓reduceIte, Nat.reduceEqDiff, Nat.reduceLeDiff, Nat.reduceAdd, Nat.reduceMul, Nat.reduceSub, Nat.reduceBEq, Nat.reduceGT, Nat.reduceLT, Int.reduceLE, Int.reduceLT, Int.reduceNeg, reduceCtorEq]
        refine ⟨dl, false, rfl, ?_⟩
        rw [if_neg (by decide)]
        refine .inr ⟨.ret, by simp, hset_same dl, ?_⟩
        simp only [go_sem, ↓reduceIte, Nat.reduceEqDiff, Nat.reduceLeDiff, Nat.reduceAdd, Nat.reduceMul, Nat.reduceSub, Nat.reduceBEq, Nat.reduceGT, Nat.reduceLT, Int.reduceLE, Int.reduceLT, Int.reduceNeg, reduceCtorEq]
        rw [doneR_cons]
        simp only [go_sem, ↓reduceIte, Nat.reduceEqDiff, Nat.reduceLeDiff, Nat.reduceAdd, Nat.reduceMul, Nat.reduceSub, Nat.reduceBEq, Nat.reduceGT, Nat.reduceLT, Int.reduceLE, Int.reduceLT, Int.reduceNeg, reduceCtorEq]
        refine ⟨?_, a', stab a' H5 _ j5 (by simp only [hset_size]; exact Nat.le_refl _) fun g hg => ?_, y4⟩
        · simp (disch := omega) only [hset_other, dD]
        · have e1 : g ≠ H3.size + 1 := by rintro rfl; exact z4 hg
          have e2 : g ≠ H3.size := by rintro rfl; exact z5 hg
          simp (disch := omega) only [hset_other]
    rw [if_neg c2]
    have c2' : q.2.2.1 = false := by simpa using c2
    refine .inl ⟨nl, ?_⟩
    simp only [go_sem, ↓reduceIte, Nat.reduceEqDiff, Nat.reduceLeDiff, Nat.reduceAdd, Nat.reduceMul, Nat.reduceSub, Nat.reduceBEq, Nat.reduceGT, Nat.reduceLT, Int.reduceLE, Int.reduceLT, Int.reduceNeg, reduceCtorEq]
    rw [doneR_cons]
    simp only [go_sem, ↓reduceIte, Nat.reduceEqDiff, Nat.reduceLeDiff, Nat.reduceAdd, Nat.reduceMul, Nat.reduceSub, Nat.reduceBEq, Nat.reduceGT, Nat.reduceLT, Int.reduceLE, Int.reduceLT, Int.reduceNeg, reduceCtorEq]
    refine ⟨?_, a, stab a Hn _ jn (by simp only [hset_size]; exact Nat.le_refl _) fun g hg => ?_, hE (.inr c2')⟩
    · simp (disch := omega) only [hset_other, nD]
    · have e1 : g ≠ H3.size + 1 := by rintro rfl; exact p10 hg
      have e2 : g ≠ H3.size := by rintro rfl; exact p11 hg
      simp (disch := omega) only [hset_other]
end Go.Proofs.YtgpoldjpmcoppaaDoor
