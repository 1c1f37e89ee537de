/- The reference: Held. -/
import Derived.Test.YtmkheogjnlmkdaaVRfI
set_option linter.unusedSimpArgs false
set_option linter.unusedVariables false
set_option maxRecDepth 20000
namespace Go.Proofs.Ytmkheogjnlmkdaa
open Go Go.V
-- 57: (*pith/pithref8.FS).Held
-- 4: bool
-- 5: uint8
-- 125: pithref8.Entry
def metStep (r : RSt) (p : List Bool × Int) (e : En) : List Bool × Int := if p.1.getD e.2 false then p else (p.1.set e.2 true, p.2 + (fileR r e.2).1.length)
def metF (r : RSt) (es : List En) (p : List Bool × Int) : List Bool × Int := es.foldl (metStep r) p
def met0 (r : RSt) : List Bool × Int := (List.replicate r.files.length false, 0)
def heldR (r : RSt) : Int := (metF r r.dirs.flatten (met0 r)).2
theorem metStep_len (r : RSt) (p : List Bool × Int) (e : En) : (metStep r p e).1.length = p.1.length := by unfold metStep; split <;> simp
theorem metF_len (r : RSt) : ∀ (es : List En) (p : List Bool × Int), (metF r es p).1.length = p.1.length
  | [], p => rfl
  | e :: es, p => by unfold metF; rw [List.foldl_cons]; exact (metF_len r es _).trans (metStep_len r p e)
theorem metStep_le (r : RSt) (p : List Bool × Int) (e : En) : p.2 ≤ (metStep r p e).2 := by unfold metStep; split <;> simp <;> omega
theorem metF_le (r : RSt) : ∀ (es : List En) (p : List Bool × Int), p.2 ≤ (metF r es p).2
  | [], p => Int.le_refl _
  | e :: es, p => by unfold metF; rw [List.foldl_cons]; exact Int.le_trans (metStep_le r p e) (metF_le r es _)
theorem metF_append (r : RSt) (xs ys : List En) (p : List Bool × Int) : metF r (xs ++ ys) p = metF r ys (metF r xs p) := by unfold metF; rw [List.foldl_append]
theorem met_part {r : RSt} {i k : Nat} {es : List En} (hi : r.dirs[i]? = some es) : 0 ≤ (metF r (es.take k) (metF r (r.dirs.take i).flatten (met0 r))).2 ∧ (metF r (es.take k) (metF r (r.dirs.take i).flatten (met0 r))).2 ≤ heldR r := by
  refine ⟨Int.le_trans (metF_le r _ (met0 r)) (metF_le r _ _), ?_⟩
  have hil := (List.getElem?_eq_some_iff.1 hi).1
  have e : r.dirs.flatten = (r.dirs.take i).flatten ++ (es.take k ++ (es.drop k ++ (r.dirs.drop (i + 1)).flatten)) := by
    have : r.dirs = r.dirs.take i ++ es :: r.dirs.drop (i + 1) := by
      conv => lhs; rw [← List.take_append_drop i r.dirs, List.drop_eq_getElem_cons hil, (List.getElem?_eq_some_iff.1 hi).2]
    conv => lhs; rw [this]
    rw [List.flatten_append, List.flatten_cons, ← List.append_assoc (es.take k), List.take_append_drop]
  unfold heldR
  rw [e, metF_append, metF_append]
  exact metF_le r _ _
section
variable {H H' : Heap} {F F' : Nat → Prop} {b : Nat} {fv dv pv fv' dv' pv' : Value} {P P' : List (Value × Dt)} {Q Q' : List (Value × List En)} {r r0 r' : RSt}
set_option maxHeartbeats 1600000 in
theorem F57 (h : RFsP H F b fv dv pv P Q r) (ok : OkR r) (hb : heldR r ≤ 4611686018427387904) :
    Fun Try.prog 57 #[ptrOf b] H (fun v H' => v = .int .i64 (heldR r) ∧ Ext H H') := by
  refine fun_of mixed (args := [_]) Try.func57 Try.ntmps57 b57 r57 rfl ?_
  obtain ⟨g0, g1, g2, g3, g4, g5, g6⟩ := h.get
  obtain ⟨a, cap, rfl⟩ := h.fform
  obtain ⟨a2, cap2, rfl⟩ := h.dform
  have hfl := ok.fl
  have hdl := ok.dl
  simp only [go_sem, ↓reduceIte, Nat.reduceEqDiff, Nat.reduceLeDiff, Nat.reduceAdd, Nat.reduceMul, Nat.reduceSub, Nat.reduceBEq, Nat.reduceGT, Nat.reduceLT, Int.reduceLE, Int.reduceLT, Int.reduceNeg, reduceCtorEq, ptrOf, g1]
  refine ⟨by omega, by omega, by omega, by omega, ?_⟩
  have o0 : Own (H.push (.cells (zrow (.bool false) r.files.length) 4)) H.size 4 1 (.slice (some ⟨H.size, 0, none⟩) r.files.length r.files.length) ((met0 r).1.map .bool) := by
    have := Own.made (H := H) (B := H.size) (e := 4) (sz := 1) (l := r.files.length) (c := r.files.length) (z := .bool false) (Nat.le_refl _) (Nat.le_refl _) (by omega)
    rw [zrow_one rfl, Nat.mul_one, List.take_of_length_le (by simp), show List.replicate r.files.length (Value.bool false) = (met0 r).1.map .bool by simp [met0]] at this
    exact this
  have x0 : Ext H (H.push (.cells (zrow (.bool false) r.files.length) 4)) := Ext.push _
  refine LoopI.by mixed (fun ρ H' => ∃ (i : Nat) (p : List Bool × Int), ρ 0 = ptrOf b ∧ ρ 3 = .slice (some ⟨H.size, 0, none⟩) r.files.length r.files.length ∧ ρ 4 = .int .i64 p.2 ∧ ρ 5 = .int .i64 i ∧ i ≤ r.dirs.length ∧ p = metF r (r.dirs.take i).flatten (met0 r) ∧ Own H' H.size 4 1 (.slice (some ⟨H.size, 0, none⟩) r.files.length r.files.length) (p.1.map .bool) ∧ Ext H H') (fun ρ _ => r.dirs.length - (iof (ρ 5)).toNat) ?_ ?_
  · exact ⟨0, met0 r, by simp only [go_sem, ↓reduceIte, Nat.reduceEqDiff, Nat.reduceLeDiff, Nat.reduceAdd, Nat.reduceMul, Nat.reduceSub, Nat.reduceBEq, Nat.reduceGT, Nat.reduceLT, Int.reduceLE, Int.reduceLT, Int.reduceNeg, reduceCtorEq, ptrOf], by simp only [go_sem, ↓reduceIte, Nat.reduceEqDiff, Nat.reduceLeDiff, Nat.reduceAdd, Nat.reduceMul, Nat.reduceSub, Nat.reduceBEq, Nat.reduceGT, Nat.reduceLT, Int.reduceLE, Int.reduceLT, Int.reduceNeg, reduceCtorEq], by simp only [go_sem, ↓reduceIte, Nat.reduceEqDiff, Nat.reduceLeDiff, Nat.reduceAdd, Nat.reduceMul, Nat.reduceSub, Nat.reduceBEq, Nat.reduceGT, Nat.reduceLT, Int.reduceLE, Int.reduceLT, Int.reduceNeg, reduceCtorEq] <;> rfl, by simp only [go_sem, ↓reduceIte, Nat.reduceEqDiff, Nat.reduceLeDiff, Nat.reduceAdd, Nat.reduceMul, Nat.reduceSub, Nat.reduceBEq, Nat.reduceGT, Nat.reduceLT, Int.reduceLE, Int.reduceLT, Int.reduceNeg, reduceCtorEq] <;> rfl, by omega, rfl, o0, x0⟩
  rintro ρ H1 ⟨i, p, e0, e3, e4, e5, hi, hp, ho, hx⟩
  obtain ⟨q0, q1, q2, _⟩ := (h.ext hx).get
  by_cases hlt : i < r.dirs.length
  · obtain ⟨es, hes⟩ : ∃ es, r.dirs[i]? = some es := ⟨_, List.getElem?_eq_getElem hlt⟩
    have hesD : r.dirs.getD i [] = es := by rw [List.getD_eq_getElem?_getD, hes]; rfl
    have hesM : es ∈ r.dirs := List.mem_of_getElem? hes
    have hel := ok.el _ hesM
    have c1 : (i : Int) < r.dirs.length := by omega
    have c0 : (0 : Int) ≤ i := by omega
    have w2 : IntKind.i64.wrap ((i : Int) + 1) = ((i + 1 : Nat) : Int) := by rw [w64_id (by omega) (by omega)]; omega
    simp only [go_sem, ↓reduceIte, Nat.reduceEqDiff, Nat.reduceLeDiff, Nat.reduceAdd, Nat.reduceMul, Nat.reduceSub, Nat.reduceBEq, Nat.reduceGT, Nat.reduceLT, Int.reduceLE, Int.reduceLT, Int.reduceNeg, reduceCtorEq, c57_L1, ptrOf, e0, e3, e4, e5, q2, c0, c1, w2]
    refine LoopI.by mixed (fun ρ H' => ∃ (k : Nat) (p : List Bool × Int), ρ 0 = ptrOf b ∧ ρ 3 = .slice (some ⟨H.size, 0, none⟩) r.files.length r.files.length ∧ ρ 4 = .int .i64 p.2 ∧ ρ 5 = .int .i64 i ∧ ρ 6 = .int .i64 k ∧ k ≤ es.length ∧ p = metF r (es.take k) (metF r (r.dirs.take i).flatten (met0 r)) ∧ Own H' H.size 4 1 (.slice (some ⟨H.size, 0, none⟩) r.files.length r.files.length) (p.1.map .bool) ∧ Ext H H') (fun ρ _ => es.length - (iof (ρ 6)).toNat) ?_ ?_
    · exact ⟨0, p, by simp only [go_sem, ↓reduceIte, Nat.reduceEqDiff, Nat.reduceLeDiff, Nat.reduceAdd, Nat.reduceMul, Nat.reduceSub, Nat.reduceBEq, Nat.reduceGT, Nat.reduceLT, Int.reduceLE, Int.reduceLT, Int.reduceNeg, reduceCtorEq, e0, ptrOf], by simp only [go_sem, ↓reduceIte, Nat.reduceEqDiff, Nat.reduceLeDiff, Nat.reduceAdd, Nat.reduceMul, Nat.reduceSub, Nat.reduceBEq, Nat.reduceGT, Nat.reduceLT, Int.reduceLE, Int.reduceLT, Int.reduceNeg, reduceCtorEq, e3], by simp only [go_sem, ↓reduceIte, Nat.reduceEqDiff, Nat.reduceLeDiff, Nat.reduceAdd, Nat.reduceMul, Nat.reduceSub, Nat.reduceBEq, Nat.reduceGT, Nat.reduceLT, Int.reduceLE, Int.reduceLT, Int.reduceNeg, reduceCtorEq, e4], by simp only [go_sem, ↓reduceIte, Nat.reduceEqDiff, Nat.reduceLeDiff, Nat.reduceAdd, Nat.reduceMul, Nat.reduceSub, Nat.reduceBEq, Nat.reduceGT, Nat.reduceLT, Int.reduceLE, Int.reduceLT, Int.reduceNeg, reduceCtorEq, e5], by simp only [go_sem, ↓reduceIte, Nat.reduceEqDiff, Nat.reduceLeDiff, Nat.reduceAdd, Nat.reduceMul, Nat.reduceSub, Nat.reduceBEq, Nat.reduceGT, Nat.reduceLT, Int.reduceLE, Int.reduceLT, Int.reduceNeg, reduceCtorEq] <;> rfl, by omega, hp, ho, hx⟩
    have hi5 : iof (ρ 5) = i := by rw [e5]; rfl
    rintro ρ H2 ⟨k, p2, d0, d3, d4, d5, d6, hk, hp2, ho2, hx2⟩
    obtain ⟨_, u1, u2, _⟩ := (h.ext hx2).get
    obtain ⟨gD, oD, capD, vD, eD, gv, oE, _⟩ := (h.ext hx2).dget hlt
    rw [hesD] at oE
    cases eD
    obtain ⟨aE, capE, rfl⟩ := ent_form oE.sl
    by_cases hkl : k < es.length
    · obtain ⟨e, hek⟩ : ∃ e, es[k]? = some e := ⟨_, List.getElem?_eq_getElem hkl⟩
      obtain ⟨gE, oo, rfl, _, gf⟩ := ent_at oE.sl hek
      have hx9 := ok.ix _ hesM e (List.mem_of_getElem? hek)
      obtain ⟨gF, oF, capF, w, eF, gw, _, _, ow, _⟩ := (h.ext hx2).fget hx9
      cases eF
      obtain ⟨aw, cw, rfl⟩ := Ints.form (show Ints H2 5 .u8 w _ from ow.sl)
      have c2 : (k : Int) < es.length := by omega
      have c3 : (0 : Int) ≤ k := by omega
      have c4 : (0 : Int) ≤ (e.2 : Int) := by omega
      have c5 : (e.2 : Int) < r.files.length := by omega
      have w3 : IntKind.i64.wrap ((k : Int) + 1) = ((k + 1 : Nat) : Int) := by rw [w64_id (by omega) (by omega)]; omega
      have hpl : p2.1.length = r.files.length := by rw [hp2, metF_len, metF_len]; simp [met0]
      have gm := Bls.get (show Bls H2 4 _ p2.1 from ho2.sl) (i := e.2) (by omega)
      rw [Nat.zero_add] at gm
      have hst : metF r (es.take (k + 1)) (metF r (r.dirs.take i).flatten (met0 r)) = metStep r p2 e := by
        rw [List.take_add_one, hek, metF_append, ← hp2]; rfl
      have hbd := met_part (k := k + 1) hes
      rw [hst] at hbd
      cases hm : p2.1.getD e.2 false with
      | true =>
        have e9 : metStep r p2 e = p2 := by unfold metStep; rw [hm]; rfl
        rw [e9] at hst
        rw [hm] at gm
        simp only [go_sem, ↓reduceIte, Nat.reduceEqDiff, Nat.reduceLeDiff, Nat.reduceAdd, Nat.reduceMul, Nat.reduceSub, Nat.reduceBEq, Nat.reduceGT, Nat.reduceLT, Int.reduceLE, Int.reduceLT, Int.reduceNeg, reduceCtorEq, c57_L0, ptrOf, d0, d3, d4, d5, d6, u1, u2, gv, gf, c0, c1, c2, c3, c4, c5, w3, Int.toNat_natCast, gm]
        exact ⟨Hold.mk ⟨k + 1, p2, by simp only [go_sem, ↓reduceIte, Nat.reduceEqDiff, Nat.reduceLeDiff, Nat.reduceAdd, Nat.reduceMul, Nat.reduceSub, Nat.reduceBEq, Nat.reduceGT, Nat.reduceLT, Int.reduceLE, Int.reduceLT, Int.reduceNeg, reduceCtorEq, d0, ptrOf], by simp only [go_sem, ↓reduceIte, Nat.reduceEqDiff, Nat.reduceLeDiff, Nat.reduceAdd, Nat.reduceMul, Nat.reduceSub, Nat.reduceBEq, Nat.reduceGT, Nat.reduceLT, Int.reduceLE, Int.reduceLT, Int.reduceNeg, reduceCtorEq, d3], by simp only [go_sem, ↓reduceIte, Nat.reduceEqDiff, Nat.reduceLeDiff, Nat.reduceAdd, Nat.reduceMul, Nat.reduceSub, Nat.reduceBEq, Nat.reduceGT, Nat.reduceLT, Int.reduceLE, Int.reduceLT, Int.reduceNeg, reduceCtorEq, d4], by simp only [go_sem, ↓reduceIte, Nat.reduceEqDiff, Nat.reduceLeDiff, Nat.reduceAdd, Nat.reduceMul, Nat.reduceSub, Nat.reduceBEq, Nat.reduceGT, Nat.reduceLT, Int.reduceLE, Int.reduceLT, Int.reduceNeg, reduceCtorEq, d5], by simp only [go_sem, ↓reduceIte, Nat.reduceEqDiff, Nat.reduceLeDiff, Nat.reduceAdd, Nat.reduceMul, Nat.reduceSub, Nat.reduceBEq, Nat.reduceGT, Nat.reduceLT, Int.reduceLE, Int.reduceLT, Int.reduceNeg, reduceCtorEq], by omega, hst.symm, ho2, hx2⟩, by omega⟩
      | false =>
        have e9 : metStep r p2 e = (p2.1.set e.2 true, p2.2 + (fileR r e.2).1.length) := by unfold metStep; rw [hm]; rfl
        rw [e9] at hst hbd
        simp only at hbd
        rw [hm] at gm
        obtain ⟨_, s1, s2, s3, _⟩ := ho2.store (i := e.2) (by omega) (.bool true)
        rw [Nat.zero_add] at s1 s2 s3
        have hx3 : Ext H (hput H2 H.size e.2 [.bool true]) := hx2.hput (Nat.le_refl _)
        obtain ⟨_, v1, v2, _⟩ := (h.ext hx3).get
        obtain ⟨gF', oF', capF', w', eF', gw', _, hP', _, _⟩ := (h.ext hx3).fget hx9
        cases eF'
        obtain ⟨_, _, _, w'', eF'', gw'', _, hP'', _, _⟩ := (h.ext hx2).fget hx9
        cases eF''
        rw [hP'] at hP''
        cases hP''
        rw [gw] at gw''
        cases gw''
        have w4 : IntKind.i64.wrap (p2.2 + ((fileR r e.2).1.length : Int)) = p2.2 + (fileR r e.2).1.length := by
          have h0 : 0 ≤ p2.2 := by rw [hp2]; exact (met_part hes).1
          exact w64_id (by omega) (by omega)
        simp only [go_sem, ↓reduceIte, Nat.reduceEqDiff, Nat.reduceLeDiff, Nat.reduceAdd, Nat.reduceMul, Nat.reduceSub, Nat.reduceBEq, Nat.reduceGT, Nat.reduceLT, Int.reduceLE, Int.reduceLT, Int.reduceNeg, reduceCtorEq, c57_L0, ptrOf, d0, d3, d4, d5, d6, u1, u2, gv, gf, c0, c1, c2, c3, c4, c5, w3, w4, Int.toNat_natCast, gm, s1, v1, gw']
        refine ⟨rfl, Hold.mk ⟨k + 1, (p2.1.set e.2 true, p2.2 + (fileR r e.2).1.length), by simp only [go_sem, ↓reduceIte, Nat.reduceEqDiff, Nat.reduceLeDiff, Nat.reduceAdd, Nat.reduceMul, Nat.reduceSub, Nat.reduceBEq, Nat.reduceGT, Nat.reduceLT, Int.reduceLE, Int.reduceLT, Int.reduceNeg, reduceCtorEq, d0, ptrOf], by simp only [go_sem, ↓reduceIte, Nat.reduceEqDiff, Nat.reduceLeDiff, Nat.reduceAdd, Nat.reduceMul, Nat.reduceSub, Nat.reduceBEq, Nat.reduceGT, Nat.reduceLT, Int.reduceLE, Int.reduceLT, Int.reduceNeg, reduceCtorEq, d3], by simp only [go_sem, ↓reduceIte, Nat.reduceEqDiff, Nat.reduceLeDiff, Nat.reduceAdd, Nat.reduceMul, Nat.reduceSub, Nat.reduceBEq, Nat.reduceGT, Nat.reduceLT, Int.reduceLE, Int.reduceLT, Int.reduceNeg, reduceCtorEq], by simp only [go_sem, ↓reduceIte, Nat.reduceEqDiff, Nat.reduceLeDiff, Nat.reduceAdd, Nat.reduceMul, Nat.reduceSub, Nat.reduceBEq, Nat.reduceGT, Nat.reduceLT, Int.reduceLE, Int.reduceLT, Int.reduceNeg, reduceCtorEq, d5], by simp only [go_sem, ↓reduceIte, Nat.reduceEqDiff, Nat.reduceLeDiff, Nat.reduceAdd, Nat.reduceMul, Nat.reduceSub, Nat.reduceBEq, Nat.reduceGT, Nat.reduceLT, Int.reduceLE, Int.reduceLT, Int.reduceNeg, reduceCtorEq], by omega, hst.symm, ?_, hx3⟩, by omega⟩
        have : (p2.1.set e.2 true).map Value.bool = (p2.1.map Value.bool).set e.2 (.bool true) := by rw [List.map_set]
        rw [this]
        exact s2
    · have c2 : ¬ (k : Int) < es.length := by omega
      have : k = es.length := by omega
      subst this
      rw [List.take_of_length_le (Nat.le_refl _)] at hp2
      simp only [go_sem, ↓reduceIte, Nat.reduceEqDiff, Nat.reduceLeDiff, Nat.reduceAdd, Nat.reduceMul, Nat.reduceSub, Nat.reduceBEq, Nat.reduceGT, Nat.reduceLT, Int.reduceLE, Int.reduceLT, Int.reduceNeg, reduceCtorEq, c57_L0, ptrOf, d0, d3, d4, d5, d6, u1, u2, gv, c0, c1, c2, w2, Int.toNat_natCast]
      refine ⟨Hold.mk ⟨i + 1, p2, by simp only [go_sem, ↓reduceIte, Nat.reduceEqDiff, Nat.reduceLeDiff, Nat.reduceAdd, Nat.reduceMul, Nat.reduceSub, Nat.reduceBEq, Nat.reduceGT, Nat.reduceLT, Int.reduceLE, Int.reduceLT, Int.reduceNeg, reduceCtorEq, d0, ptrOf], by simp only [go_sem, ↓reduceIte, Nat.reduceEqDiff, Nat.reduceLeDiff, Nat.reduceAdd, Nat.reduceMul, Nat.reduceSub, Nat.reduceBEq, Nat.reduceGT, Nat.reduceLT, Int.reduceLE, Int.reduceLT, Int.reduceNeg, reduceCtorEq, d3], by simp only [go_sem, ↓reduceIte, Nat.reduceEqDiff, Nat.reduceLeDiff, Nat.reduceAdd, Nat.reduceMul, Nat.reduceSub, Nat.reduceBEq, Nat.reduceGT, Nat.reduceLT, Int.reduceLE, Int.reduceLT, Int.reduceNeg, reduceCtorEq, d4], by simp only [go_sem, ↓reduceIte, Nat.reduceEqDiff, Nat.reduceLeDiff, Nat.reduceAdd, Nat.reduceMul, Nat.reduceSub, Nat.reduceBEq, Nat.reduceGT, Nat.reduceLT, Int.reduceLE, Int.reduceLT, Int.reduceNeg, reduceCtorEq], by omega, ?_, ho2, hx2⟩, by omega⟩
      rw [hp2, List.take_add_one, hes, ← metF_append]
      simp
  · have c1 : ¬ (i : Int) < r.dirs.length := by omega
    have : i = r.dirs.length := by omega
    subst this
    rw [List.take_of_length_le (Nat.le_refl _)] at hp
    simp only [go_sem, ↓reduceIte, Nat.reduceEqDiff, Nat.reduceLeDiff, Nat.reduceAdd, Nat.reduceMul, Nat.reduceSub, Nat.reduceBEq, Nat.reduceGT, Nat.reduceLT, Int.reduceLE, Int.reduceLT, Int.reduceNeg, reduceCtorEq, c57_L1, ptrOf, e0, e3, e4, e5, q2, c1]
    refine ⟨?_, hx⟩
    rw [hp]; rfl
end
end Go.Proofs.Ytmkheogjnlmkdaa
