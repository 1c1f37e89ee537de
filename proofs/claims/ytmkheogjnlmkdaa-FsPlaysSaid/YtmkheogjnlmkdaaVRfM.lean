/- The reference: left, Lasting. -/
import Derived.Test.YtmkheogjnlmkdaaVRfL
set_option linter.unusedSimpArgs false
set_option linter.unusedVariables false
set_option maxRecDepth 20000
namespace Go.Proofs.Ytmkheogjnlmkdaa
open Go Go.V
-- 88: (*pith/pithref8.FS).left
-- 56: (*pith/pithref8.FS).Lasting
-- 101: pith/pithref8.told
-- 69: pith/pithref.Bytes
-- 5: uint8
-- 34: []uint8
-- 3: int
-- 125: pithref8.Entry
-- 129: pithref8.Data
-- 139: pithref8.Done
-- 44: pith/api.File
-- 26: []api.File
section
variable {H H' : Heap} {F F' : Nat → Prop} {b : Nat} {fv dv pv fv' dv' pv' : Value} {P P' : List (Value × Dt)} {Q Q' : List (Value × List En)} {r r0 r' : RSt}
theorem RFsP.pget (h : RFsP H F b fv dv pv P Q r) : (∃ a cap, pv = .slice a r.pend.length cap) ∧ ∀ {i : Nat} {p : Nat × Nm}, r.pend[i]? = some p → ∃ g o cap, pv = .slice (some ⟨g, o, none⟩) r.pend.length cap ∧ hget H g (o + i * 2) = some (.int .i64 p.1) ∧ hget H g (o + i * 2 + 1) = some (.string p.2) := by
  obtain ⟨a, len, cap, e⟩ := Sl.form h.hP.sl
  have h1 := h.hP.sl
  rw [e] at h1
  have hl := Sl.length h1
  rw [doneC_len] at hl
  have hl : r.pend.length = len := by omega
  subst hl
  refine ⟨⟨a, cap, e⟩, fun {i p} hp => ?_⟩
  have hi := (List.getElem?_eq_some_iff.1 hp).1
  obtain ⟨g, o, rfl⟩ := Sl.at h1 (by omega)
  have gg : ∀ j, j < 2 → hget H g (o + i * 2 + j) = ([Value.int .i64 p.1, .string p.2] : List Value)[j]? := fun j hj => by
    rw [Nat.add_assoc, Sl.get h1 (i := i * 2 + j) (by omega)]
    exact fl_get (f := fun p : Nat × Nm => [Value.int .i64 p.1, .string p.2]) (fun _ => rfl) r.pend i j p hp hj
  exact ⟨g, o, cap, e, gg 0 (by omega), gg 1 (by omega)⟩
theorem wu64_min (i : Nat) : IntKind.u64.wrap ((min i 63 : Nat) : Int) = ((min i 63 : Nat) : Int) := by rw [wu64]; omega
set_option maxHeartbeats 3200000 in
theorem F88 (h : RFsP H F b fv dv pv P Q r) (ok : OkR r) (dir : Int) {v : Value} {cuts : List Int} (hv : Ints H 3 .i64 v cuts) :
    Fun Try.prog 88 #[ptrOf b, .int .i64 dir, v] H (fun u H' => ∃ P, P.map (·.2) = leftR r dir cuts ∧ FilesO H' H.size u P ∧ Ext H H') := by
  obtain ⟨av, cv, rfl⟩ := hv.form
  refine fun_of mixed (args := [_, _, _]) Try.func88 Try.ntmps88 b88 r88 rfl ?_
  obtain ⟨g0, g1, g2, g3, g4, g5, g6⟩ := h.get
  have hpl := ok.pl
  have hdne := ok.dne
  obtain ⟨gD, oD, capD, vD, rfl, gv, oE, _⟩ := h.dget (i := 0) ok.dne
  have z0 : (0 : Int) < r.dirs.length := by omega
  have gv0 : hget H gD oD = some vD := by simpa using gv
  simp only [go_sem, ↓reduceIte, Nat.reduceEqDiff, Nat.reduceLeDiff, Nat.reduceAdd, Nat.reduceMul, Nat.reduceSub, Nat.reduceBEq, Nat.reduceGT, Nat.reduceLT, Int.reduceLE, Int.reduceLT, Int.reduceNeg, reduceCtorEq, ptrOf, g2, z0, Int.toNat_zero, gv, gv0]
  have hD0 : r.dirs.getD 0 [] ∈ r.dirs := by rw [List.getD_eq_getElem?_getD, List.getElem?_eq_getElem (by omega)]; exact List.getElem_mem _
  refine LoopI.by mixed (fun ρ H' => ∃ (i : Nat) (w : Value) (D : List En), ρ 0 = ptrOf b ∧ ρ 1 = .int .i64 dir ∧ ρ 2 = .slice av cuts.length cv ∧ ρ 7 = w ∧ ρ 8 = .int .i64 i ∧ i ≤ r.pend.length ∧ Own H' 0 125 2 w (entC D) ∧ afterR D dir (r.pend.drop i) i = leftD r dir ∧ D.length ≤ 1000000000000 + i ∧ (∀ e ∈ D, e.2 < r.files.length) ∧ Ext H H') (fun ρ _ => r.pend.length - (iof (ρ 8)).toNat) ?_ ?_
  · exact ⟨0, _, r.dirs.getD 0 [], by simp only [go_sem, ↓reduceIte, Nat.reduceEqDiff, Nat.reduceLeDiff, Nat.reduceAdd, Nat.reduceMul, Nat.reduceSub, Nat.reduceBEq, Nat.reduceGT, Nat.reduceLT, Int.reduceLE, Int.reduceLT, Int.reduceNeg, reduceCtorEq, ptrOf], by simp only [go_sem, ↓reduceIte, Nat.reduceEqDiff, Nat.reduceLeDiff, Nat.reduceAdd, Nat.reduceMul, Nat.reduceSub, Nat.reduceBEq, Nat.reduceGT, Nat.reduceLT, Int.reduceLE, Int.reduceLT, Int.reduceNeg, reduceCtorEq], by simp only [go_sem, ↓reduceIte, Nat.reduceEqDiff, Nat.reduceLeDiff, Nat.reduceAdd, Nat.reduceMul, Nat.reduceSub, Nat.reduceBEq, Nat.reduceGT, Nat.reduceLT, Int.reduceLE, Int.reduceLT, Int.reduceNeg, reduceCtorEq], by simp only [go_sem, ↓reduceIte, Nat.reduceEqDiff, Nat.reduceLeDiff, Nat.reduceAdd, Nat.reduceMul, Nat.reduceSub, Nat.reduceBEq, Nat.reduceGT, Nat.reduceLT, Int.reduceLE, Int.reduceLT, Int.reduceNeg, reduceCtorEq] <;> rfl, by simp only [go_sem, ↓reduceIte, Nat.reduceEqDiff, Nat.reduceLeDiff, Nat.reduceAdd, Nat.reduceMul, Nat.reduceSub, Nat.reduceBEq, Nat.reduceGT, Nat.reduceLT, Int.reduceLE, Int.reduceLT, Int.reduceNeg, reduceCtorEq] <;> rfl, by omega, oE, rfl, by have := ok.el _ hD0; omega, ok.ix _ hD0, Upto.refl _ _⟩
  rintro ρ H1 ⟨i, w, D, e0, e1, e2, e7, e8, hi, oD1, haft, hDl, hDx, hx⟩
  have h1 := h.ext hx
  obtain ⟨q0, q1, q2, q3, _⟩ := h1.get
  obtain ⟨⟨ap, capp, ep⟩, hpg⟩ := h1.pget
  by_cases hlt : i < r.pend.length
  · obtain ⟨p, hpi⟩ : ∃ p, r.pend[i]? = some p := ⟨_, List.getElem?_eq_getElem hlt⟩
    obtain ⟨gp, op, capp', rfl, gp0, gp1⟩ := hpg hpi
    have c0 : (0 : Int) ≤ i := by omega
    have c1 : (i : Int) < r.pend.length := by omega
    have w1 : IntKind.i64.wrap ((i : Int) + 1) = ((i + 1 : Nat) : Int) := by rw [w64_id (by omega) (by omega)]; omega
    have emin : (if (63 : Int) < (i : Int) then (63 : Int) else (i : Int)) = ((min i 63 : Nat) : Int) := by split <;> omega
    have zmin : (0 : Int) ≤ ((min i 63 : Nat) : Int) := by omega
    have hdrop : r.pend.drop i = p :: r.pend.drop (i + 1) := by
      rw [List.drop_eq_getElem_cons hlt]
      rw [List.getElem?_eq_getElem hlt] at hpi
      injection hpi with hpi
      rw [hpi]
    rw [hdrop] at haft
    by_cases hbit : (dir / 2 ^ (min i 63)) % 2 = 0
    · have hb0 : bitI dir i = false := by unfold bitI; simp [hbit]
      rw [show afterR D dir (p :: r.pend.drop (i + 1)) i = afterR (if bitI dir i then toldE D p.1 p.2 else D) dir (r.pend.drop (i + 1)) (i + 1) from rfl, hb0] at haft
      simp only [go_sem, ↓reduceIte, Nat.reduceEqDiff, Nat.reduceLeDiff, Nat.reduceAdd, Nat.reduceMul, Nat.reduceSub, Nat.reduceBEq, Nat.reduceGT, Nat.reduceLT, Int.reduceLE, Int.reduceLT, Int.reduceNeg, reduceCtorEq, c88_L0, e0, e1, e2, e7, e8, ptrOf, q3, c0, c1, w1, emin, zmin, wu64_min, shr_eq, and_one, hbit, Int.toNat_natCast]
      exact ⟨Hold.mk ⟨i + 1, w, D, by simp only [go_sem, ↓reduceIte, Nat.reduceEqDiff, Nat.reduceLeDiff, Nat.reduceAdd, Nat.reduceMul, Nat.reduceSub, Nat.reduceBEq, Nat.reduceGT, Nat.reduceLT, Int.reduceLE, Int.reduceLT, Int.reduceNeg, reduceCtorEq, e0, ptrOf], by simp only [go_sem, ↓reduceIte, Nat.reduceEqDiff, Nat.reduceLeDiff, Nat.reduceAdd, Nat.reduceMul, Nat.reduceSub, Nat.reduceBEq, Nat.reduceGT, Nat.reduceLT, Int.reduceLE, Int.reduceLT, Int.reduceNeg, reduceCtorEq, e1], by simp only [go_sem, ↓reduceIte, Nat.reduceEqDiff, Nat.reduceLeDiff, Nat.reduceAdd, Nat.reduceMul, Nat.reduceSub, Nat.reduceBEq, Nat.reduceGT, Nat.reduceLT, Int.reduceLE, Int.reduceLT, Int.reduceNeg, reduceCtorEq, e2], by simp only [go_sem, ↓reduceIte, Nat.reduceEqDiff, Nat.reduceLeDiff, Nat.reduceAdd, Nat.reduceMul, Nat.reduceSub, Nat.reduceBEq, Nat.reduceGT, Nat.reduceLT, Int.reduceLE, Int.reduceLT, Int.reduceNeg, reduceCtorEq, e7], by simp only [go_sem, ↓reduceIte, Nat.reduceEqDiff, Nat.reduceLeDiff, Nat.reduceAdd, Nat.reduceMul, Nat.reduceSub, Nat.reduceBEq, Nat.reduceGT, Nat.reduceLT, Int.reduceLE, Int.reduceLT, Int.reduceNeg, reduceCtorEq], by omega, oD1, by simpa using haft, by omega, hDx, hx⟩, by omega⟩
    · have hb1 : bitI dir i = true := by unfold bitI; simp [hbit]
      rw [show afterR D dir (p :: r.pend.drop (i + 1)) i = afterR (if bitI dir i then toldE D p.1 p.2 else D) dir (r.pend.drop (i + 1)) (i + 1) from rfl, hb1, if_pos rfl] at haft
      simp only [go_sem, ↓reduceIte, Nat.reduceEqDiff, Nat.reduceLeDiff, Nat.reduceAdd, Nat.reduceMul, Nat.reduceSub, Nat.reduceBEq, Nat.reduceGT, Nat.reduceLT, Int.reduceLE, Int.reduceLT, Int.reduceNeg, reduceCtorEq, c88_L0, e0, e1, e2, e7, e8, ptrOf, q3, c0, c1, w1, emin, zmin, wu64_min, shr_eq, and_one, hbit, Int.toNat_natCast, gp0, gp1, Option.bind_some]
      refine FunI.by (F101 oD1.sl (by omega) p.1 p.2) ?_
      rintro w2 H2 ⟨o2, x2⟩
      simp only [go_sem, ↓reduceIte, Nat.reduceEqDiff, Nat.reduceLeDiff, Nat.reduceAdd, Nat.reduceMul, Nat.reduceSub, Nat.reduceBEq, Nat.reduceGT, Nat.reduceLT, Int.reduceLE, Int.reduceLT, Int.reduceNeg, reduceCtorEq, e8, w1]
      refine ⟨Hold.mk ⟨i + 1, w2, toldE D p.1 p.2, by simp only [go_sem, ↓reduceIte, Nat.reduceEqDiff, Nat.reduceLeDiff, Nat.reduceAdd, Nat.reduceMul, Nat.reduceSub, Nat.reduceBEq, Nat.reduceGT, Nat.reduceLT, Int.reduceLE, Int.reduceLT, Int.reduceNeg, reduceCtorEq, e0, ptrOf], by simp only [go_sem, ↓reduceIte, Nat.reduceEqDiff, Nat.reduceLeDiff, Nat.reduceAdd, Nat.reduceMul, Nat.reduceSub, Nat.reduceBEq, Nat.reduceGT, Nat.reduceLT, Int.reduceLE, Int.reduceLT, Int.reduceNeg, reduceCtorEq, e1], by simp only [go_sem, ↓reduceIte, Nat.reduceEqDiff, Nat.reduceLeDiff, Nat.reduceAdd, Nat.reduceMul, Nat.reduceSub, Nat.reduceBEq, Nat.reduceGT, Nat.reduceLT, Int.reduceLE, Int.reduceLT, Int.reduceNeg, reduceCtorEq, e2], by simp only [go_sem, ↓reduceIte, Nat.reduceEqDiff, Nat.reduceLeDiff, Nat.reduceAdd, Nat.reduceMul, Nat.reduceSub, Nat.reduceBEq, Nat.reduceGT, Nat.reduceLT, Int.reduceLE, Int.reduceLT, Int.reduceNeg, reduceCtorEq], by simp only [go_sem, ↓reduceIte, Nat.reduceEqDiff, Nat.reduceLeDiff, Nat.reduceAdd, Nat.reduceMul, Nat.reduceSub, Nat.reduceBEq, Nat.reduceGT, Nat.reduceLT, Int.reduceLE, Int.reduceLT, Int.reduceNeg, reduceCtorEq], by omega, o2.mono (Nat.zero_le _), haft, ?_, fun e he => ?_, hx.trans (x2.mono hx.size)⟩, by omega⟩
      · have := toldE_len D p.1 p.2; omega
      · rcases toldE_mem he with rfl | he
        · exact ok.px _ (List.mem_of_getElem? hpi)
        · exact hDx e he
  have hie : i = r.pend.length := by omega
  have z1 : ¬ (i : Int) < r.pend.length := by omega
  rw [hie, List.drop_length] at haft
  have haft : D = leftD r dir := haft
  subst haft
  rw [ep] at q3
  simp only [go_sem, ↓reduceIte, Nat.reduceEqDiff, Nat.reduceLeDiff, Nat.reduceAdd, Nat.reduceMul, Nat.reduceSub, Nat.reduceBEq, Nat.reduceGT, Nat.reduceLT, Int.reduceLE, Int.reduceLT, Int.reduceNeg, reduceCtorEq, c88_L0, e0, e1, e2, e7, e8, ptrOf, q3, z1]
  obtain ⟨aE, capE, rfl⟩ := ent_form oD1.sl
  have hi5 : iof (ρ 8) = i := by rw [e8]; rfl
  refine LoopI.by mixed (fun ρ H' => ∃ (j : Nat) (u : Value) (P : List (Value × Fl)), ρ 0 = ptrOf b ∧ ρ 2 = .slice av cuts.length cv ∧ ρ 7 = .slice aE (leftD r dir).length capE ∧ ρ 9 = u ∧ ρ 10 = .int .i64 j ∧ j ≤ (leftD r dir).length ∧ P.map (·.2) = ((leftD r dir).zipIdx.take j).map (fun p => leftF r cuts p.2 p.1) ∧ FilesO H' H1.size u P ∧ Ext H1 H') (fun ρ _ => (leftD r dir).length - (iof (ρ 10)).toNat) ?_ ?_
  · exact ⟨0, _, [], by simp only [go_sem, ↓reduceIte, Nat.reduceEqDiff, Nat.reduceLeDiff, Nat.reduceAdd, Nat.reduceMul, Nat.reduceSub, Nat.reduceBEq, Nat.reduceGT, Nat.reduceLT, Int.reduceLE, Int.reduceLT, Int.reduceNeg, reduceCtorEq, e0, ptrOf], by simp only [go_sem, ↓reduceIte, Nat.reduceEqDiff, Nat.reduceLeDiff, Nat.reduceAdd, Nat.reduceMul, Nat.reduceSub, Nat.reduceBEq, Nat.reduceGT, Nat.reduceLT, Int.reduceLE, Int.reduceLT, Int.reduceNeg, reduceCtorEq, e2], by simp only [go_sem, ↓reduceIte, Nat.reduceEqDiff, Nat.reduceLeDiff, Nat.reduceAdd, Nat.reduceMul, Nat.reduceSub, Nat.reduceBEq, Nat.reduceGT, Nat.reduceLT, Int.reduceLE, Int.reduceLT, Int.reduceNeg, reduceCtorEq, e7], by simp only [go_sem, ↓reduceIte, Nat.reduceEqDiff, Nat.reduceLeDiff, Nat.reduceAdd, Nat.reduceMul, Nat.reduceSub, Nat.reduceBEq, Nat.reduceGT, Nat.reduceLT, Int.reduceLE, Int.reduceLT, Int.reduceNeg, reduceCtorEq] <;> rfl, by simp only [go_sem, ↓reduceIte, Nat.reduceEqDiff, Nat.reduceLeDiff, Nat.reduceAdd, Nat.reduceMul, Nat.reduceSub, Nat.reduceBEq, Nat.reduceGT, Nat.reduceLT, Int.reduceLE, Int.reduceLT, Int.reduceNeg, reduceCtorEq] <;> rfl, by omega, rfl, ⟨Own.nil, by simp, by simp⟩, Upto.refl _ _⟩
  rintro ρ H2 ⟨j, u, P3, d0, d2, d7, d9, d10, hj, hP3, ho, hx12⟩
  have hx2 : Ext H H2 := hx.trans (hx12.mono hx.size)
  by_cases hlt : j < (leftD r dir).length
  · obtain ⟨e, hje⟩ : ∃ e, (leftD r dir)[j]? = some e := ⟨_, List.getElem?_eq_getElem hlt⟩
    have h2 := h.ext hx2
    obtain ⟨gE, oo, rfl, gn, gf⟩ := ent_at (oD1.ext hx12).sl hje
    have hxe := hDx e (List.mem_of_getElem? hje)
    obtain ⟨gF, oF, capF, wd, rfl, gw, gs, hP, ow, owF⟩ := h2.fget hxe
    obtain ⟨dd1, dd2, dd3⟩ := fileR_dt ok hxe
    obtain ⟨_, u1, _⟩ := h2.get
    have c0 : (0 : Int) ≤ j := by omega
    have c1 : (j : Int) < (leftD r dir).length := by omega
    have c4 : (0 : Int) ≤ (e.2 : Int) := by omega
    have c5 : (e.2 : Int) < r.files.length := by omega
    have w1 : IntKind.i64.wrap ((j : Int) + 1) = ((j + 1 : Nat) : Int) := by rw [w64_id (by omega) (by omega)]; omega
    obtain ⟨aw, cw, rfl⟩ := Ints.form (show Ints H2 5 .u8 wd _ from ow.sl)
    obtain ⟨d, hd⟩ : ∃ d, fileR r e.2 = d := ⟨_, rfl⟩
    rw [hd] at gw gs ow hP dd1 dd2 dd3 owF
    have y0 : (H2.push (.cells #[.slice none 0 0, .int .i64 0] 129))[H2.size]? = some (.cells #[.slice none 0 0, .int .i64 0] 129) := push_new
    have xy : Ext H2 (hput (H2.push (.cells #[.slice none 0 0, .int .i64 0] 129)) H2.size 0 [.slice aw d.1.length cw, .int .i64 d.2]) := (Ext.push _).hput (Nat.le_refl _)
    have ky : (hput (H2.push (.cells #[.slice none 0 0, .int .i64 0] 129)) H2.size 0 [.slice aw d.1.length cw, .int .i64 d.2])[H2.size]? = some (.cells #[.slice aw d.1.length cw, .int .i64 d.2] 129) := by rw [hput_same y0]; rfl
    have hcn : hcan (H2.push (.cells #[.slice none 0 0, .int .i64 0] 129)) H2.size 0 2 := hcan_of y0 (by simp)
    simp only [go_sem, ↓reduceIte, Nat.reduceEqDiff, Nat.reduceLeDiff, Nat.reduceAdd, Nat.reduceMul, Nat.reduceSub, Nat.reduceBEq, Nat.reduceGT, Nat.reduceLT, Int.reduceLE, Int.reduceLT, Int.reduceNeg, reduceCtorEq, c88_L1, d0, d2, d7, d9, d10, ptrOf, u1, c0, c1, c4, c5, Int.toNat_natCast, gn, gf, gw, gs, Option.bind_some, ext_push, ext_refl, hcn]
    refine ⟨rfl, ?_⟩
    generalize hput (H2.push (.cells #[.slice none 0 0, .int .i64 0] 129)) H2.size 0 [.slice aw d.1.length cw, .int .i64 d.2] = H3 at *
    have f0 : hget H3 H2.size 0 = some (.slice aw d.1.length cw) := by rw [hget_cells ky]; rfl
    have f1 : hget H3 H2.size 1 = some (.int .i64 d.2) := by rw [hget_cells ky]; rfl
    obtain ⟨_, _, h9, gn3, _⟩ := ent_at ((oD1.ext hx12).ext xy).sl hje
    cases h9
    obtain ⟨sm, hsm⟩ : ∃ sm, sm = d.2 + moreR cuts d j := ⟨_, rfl⟩
    have wl : IntKind.i64.wrap ((d.1.length : Int) - (d.2 : Int)) = (d.1.length : Int) - d.2 := w64_id (by omega) (by omega)
    by_cases hjc : j < cuts.length
    case' pos =>
      have c6 : (j : Int) < cuts.length := by omega
      obtain ⟨gc, oc, rfl⟩ := Ints.at hv hjc
      have gcut := Ints.get ((hv.ext hx2).ext xy) hjc
      simp only [go_sem, ↓reduceIte, Nat.reduceEqDiff, Nat.reduceLeDiff, Nat.reduceAdd, Nat.reduceMul, Nat.reduceSub, Nat.reduceBEq, Nat.reduceGT, Nat.reduceLT, Int.reduceLE, Int.reduceLT, Int.reduceNeg, reduceCtorEq, d10, c6, c0, Int.toNat_natCast, gcut, f0, f1, wl, Option.bind_some, ext_push, ext_refl]
    case' neg =>
      have c6 : ¬ (j : Int) < cuts.length := by omega
      simp only [go_sem, ↓reduceIte, Nat.reduceEqDiff, Nat.reduceLeDiff, Nat.reduceAdd, Nat.reduceMul, Nat.reduceSub, Nat.reduceBEq, Nat.reduceGT, Nat.reduceLT, Int.reduceLE, Int.reduceLT, Int.reduceNeg, reduceCtorEq, d10, c6, c0, Int.toNat_natCast, f0, f1, wl, Option.bind_some, ext_push, ext_refl]
    case' pos =>
      have wA : IntKind.i64.wrap ((d.2 : Int) + if (if (d.1.length : Int) - d.2 < cuts.getD j 0 then (d.1.length : Int) - d.2 else cuts.getD j 0) > 0 then if (d.1.length : Int) - d.2 < cuts.getD j 0 then (d.1.length : Int) - d.2 else cuts.getD j 0 else 0) = (sm : Int) := by
        have hm : moreR cuts d j = (max 0 (min (cuts.getD j 0) ((d.1.length : Int) - d.2))).toNat := if_pos hjc
        rw [hm] at hsm
        rw [w64_id]
        · split <;> split <;> omega
        · split <;> split <;> omega
        · split <;> split <;> omega
      rw [wA]
      have hsl : sm ≤ d.1.length := by
        have hm : moreR cuts d j = (max 0 (min (cuts.getD j 0) ((d.1.length : Int) - d.2))).toNat := if_pos hjc
        rw [hm] at hsm
        omega
    case' neg =>
      have wA : IntKind.i64.wrap ((d.2 : Int) + 0) = (sm : Int) := by
        have hm : moreR cuts d j = 0 := if_neg hjc
        rw [hm] at hsm
        rw [w64_id (by omega) (by omega)]; omega
      rw [wA]
      have hsl : sm ≤ d.1.length := by
        have hm : moreR cuts d j = 0 := if_neg hjc
        rw [hm] at hsm
        omega
    all_goals
      have hcw : d.1.length ≤ cw := Sl.lecap ow.sl
      have eadd : (if cw = 0 then aw else Option.map (fun x => x) aw) = aw := by split; rfl; cases aw <;> rfl
      rw [eadd, Int.toNat_natCast]
      refine ⟨⟨by omega, by omega⟩, ?_⟩
      have ow3 : Own H3 0 5 1 (.slice aw sm cw) ((d.1.take sm).map (.int .u8)) := by rw [List.map_take]; exact (ow.ext xy).cutL hsl
      refine FunI.by (F69 _ (d.1.take sm) _ ow3.sl (by rw [List.length_take]; omega)) ?_
      rintro v5 H5 ⟨o5', x5⟩
      obtain ⟨a1, l1, cc1, rfl⟩ := Sl.form o5'.sl
      obtain ⟨_, _, h9, gn5, _⟩ := ent_at (((oD1.ext hx12).ext xy).ext x5).sl hje
      cases h9
      have hP1 : P3.length = j := by have := congrArg List.length hP3; simpa [Nat.min_eq_left hj] using this
      have ho5 := (ho.own.ext xy).ext x5
      have hs5 : H1.size ≤ H5.size := Nat.le_trans hx12.size (Nat.le_trans xy.size x5.size)
      have hx15 : Ext H1 H5 := hx12.trans ((xy.trans (x5.mono xy.size)).mono hx12.size)
      simp only [go_sem, ↓reduceIte, Nat.reduceEqDiff, Nat.reduceLeDiff, Nat.reduceAdd, Nat.reduceMul, Nat.reduceSub, Nat.reduceBEq, Nat.reduceGT, Nat.reduceLT, Int.reduceLE, Int.reduceLT, Int.reduceNeg, reduceCtorEq, d0, d2, d7, d9, d10, c0, c1, Int.toNat_natCast, gn5]
      refine RunI.by (append_lit ty26 ty44 rfl (by decide) ho5 (ys := [.string e.1, .slice a1 l1 cc1]) (m := 1) rfl rfl (n := j + 1) (by rw [fileK.cells_len, hP1]; simp; omega) (by omega) (by omega) hs5) ?_
      rintro v2 H6 ⟨k1, k2, _⟩
      have hx6 : Upto H1.size H5 H6 := k2.upto ho5 hs5
      have inner : ∀ {w : Value} {ys : List Value}, Own H5 H1.size 5 1 w ys → Own H6 H1.size 5 1 w ys := fun hw => hw.byTag ho5 k2.but (by decide : 5 ≠ 44)
      simp only [go_sem, ↓reduceIte, Nat.reduceEqDiff, Nat.reduceLeDiff, Nat.reduceAdd, Nat.reduceMul, Nat.reduceSub, Nat.reduceBEq, Nat.reduceGT, Nat.reduceLT, Int.reduceLE, Int.reduceLT, Int.reduceNeg, reduceCtorEq, d0, d10, w1]
      refine ⟨Hold.mk ⟨j + 1, v2, P3 ++ [(.slice a1 l1 cc1, (e.1, d.1.take sm))], by simp only [go_sem, ↓reduceIte, Nat.reduceEqDiff, Nat.reduceLeDiff, Nat.reduceAdd, Nat.reduceMul, Nat.reduceSub, Nat.reduceBEq, Nat.reduceGT, Nat.reduceLT, Int.reduceLE, Int.reduceLT, Int.reduceNeg, reduceCtorEq, d0, ptrOf], by simp only [go_sem, ↓reduceIte, Nat.reduceEqDiff, Nat.reduceLeDiff, Nat.reduceAdd, Nat.reduceMul, Nat.reduceSub, Nat.reduceBEq, Nat.reduceGT, Nat.reduceLT, Int.reduceLE, Int.reduceLT, Int.reduceNeg, reduceCtorEq, d2], by simp only [go_sem, ↓reduceIte, Nat.reduceEqDiff, Nat.reduceLeDiff, Nat.reduceAdd, Nat.reduceMul, Nat.reduceSub, Nat.reduceBEq, Nat.reduceGT, Nat.reduceLT, Int.reduceLE, Int.reduceLT, Int.reduceNeg, reduceCtorEq, d7], by simp only [go_sem, ↓reduceIte, Nat.reduceEqDiff, Nat.reduceLeDiff, Nat.reduceAdd, Nat.reduceMul, Nat.reduceSub, Nat.reduceBEq, Nat.reduceGT, Nat.reduceLT, Int.reduceLE, Int.reduceLT, Int.reduceNeg, reduceCtorEq], by simp only [go_sem, ↓reduceIte, Nat.reduceEqDiff, Nat.reduceLeDiff, Nat.reduceAdd, Nat.reduceMul, Nat.reduceSub, Nat.reduceBEq, Nat.reduceGT, Nat.reduceLT, Int.reduceLE, Int.reduceLT, Int.reduceNeg, reduceCtorEq], by omega, ?_, ⟨?_, ?_, ?_⟩, hx15.trans hx6⟩, by omega⟩
      · rw [List.map_append, hP3, List.take_add_one, List.getElem?_zipIdx, hje, List.map_append]
        congr 1
        show [_] = [leftF r cuts (0 + j) e]
        unfold leftF
        rw [hd, Nat.zero_add, ← hsm]
      · rw [fileK.cells_snoc]; exact k1
      · intro p hp
        rcases List.mem_append.1 hp with hp | hp
        · exact inner (((ho.each p hp).ext xy).ext x5)
        · simp only [List.mem_singleton] at hp
          subst hp
          exact inner (o5'.mono (Nat.le_trans hx12.size xy.size))
      · rw [List.map_append, List.pairwise_append]
        refine ⟨ho.ap, by simp, fun w hw u' hu' => ?_⟩
        simp only [List.map_cons, List.map_nil, List.mem_singleton] at hu'
        subst hu'
        obtain ⟨p, hp, rfl⟩ := List.mem_map.1 hw
        cases hbw : blk p.1 with
        | none => exact .inl hbw
        | some g =>
          right
          rw [hbw]
          intro he
          have := ((ho.each p hp).blk hbw).2.1
          have := (o5'.blk he.symm).1
          have := xy.size
          omega
  · have z2 : ¬ (j : Int) < (leftD r dir).length := by omega
    have : j = (leftD r dir).length := by omega
    subst this
    rw [List.take_of_length_le (by simp)] at hP3
    simp only [go_sem, ↓reduceIte, Nat.reduceEqDiff, Nat.reduceLeDiff, Nat.reduceAdd, Nat.reduceMul, Nat.reduceSub, Nat.reduceBEq, Nat.reduceGT, Nat.reduceLT, Int.reduceLE, Int.reduceLT, Int.reduceNeg, reduceCtorEq, c88_L1, d0, d2, d7, d9, d10, z2]
    exact ⟨P3, hP3, ⟨ho.own.mono hx.size, fun p hp => (ho.each p hp).mono hx.size, ho.ap⟩, hx2⟩
theorem F56 (h : RFsP H F b fv dv pv P Q r) (ok : OkR r) :
    Fun Try.prog 56 #[ptrOf b] H (fun u H' => ∃ P, P.map (·.2) = leftR r 0 [] ∧ FilesO H' H.size u P ∧ Ext H H') := by
  refine fun_of mixed (args := [_]) Try.func56 Try.ntmps56 b56 r56 rfl ?_
  simp only [go_sem, ↓reduceIte, Nat.reduceEqDiff, Nat.reduceLeDiff, Nat.reduceAdd, Nat.reduceMul, Nat.reduceSub, Nat.reduceBEq, Nat.reduceGT, Nat.reduceLT, Int.reduceLE, Int.reduceLT, Int.reduceNeg, reduceCtorEq]
  refine FunI.by (F88 h ok 0 (cuts := []) Ints.nil) ?_
  rintro u H' ⟨P, h1, h2, h3⟩
  simp only [go_sem, ↓reduceIte, Nat.reduceEqDiff, Nat.reduceLeDiff, Nat.reduceAdd, Nat.reduceMul, Nat.reduceSub, Nat.reduceBEq, Nat.reduceGT, Nat.reduceLT, Int.reduceLE, Int.reduceLT, Int.reduceNeg, reduceCtorEq]
  exact ⟨P, h1, h2, h3⟩
end
end Go.Proofs.Ytmkheogjnlmkdaa
