/- The reference: Append. -/
import Derived.Test.YtmkheogjnlmkdaaVRfJ
set_option linter.unusedSimpArgs false
set_option linter.unusedVariables false
set_option maxRecDepth 20000
namespace Go.Proofs.Ytmkheogjnlmkdaa
open Go Go.V
-- 87: (*pith/pithref8.FS).now
-- 92: pith/pithref8.at
-- 91: (*pith/pithref8.FS).begins
-- 94: (*pith/pithref8.FS).power
-- 57: (*pith/pithref8.FS).Held
-- 70: (*pith/pithref8.FS).Append
-- 69: pith/pithref.Bytes
-- 5: uint8
-- 34: []uint8
-- 125: pithref8.Entry
-- 129: pithref8.Data
def appendR (r : RSt) (n : Nm) (bs : List Int) : RSt × Int :=
  if beginR r n ≠ 0 then (r, beginR r n) else match lookE r.now n with
    | none => (r, 82)
    | some x => if r.most < heldR r + bs.length then (r, 80) else powerR { r with files := r.files.set x ((fileR r x).1 ++ bs, (fileR r x).2) }
section
variable {H H' : Heap} {F F' : Nat → Prop} {b : Nat} {fv dv pv fv' dv' pv' : Value} {P P' : List (Value × Dt)} {Q Q' : List (Value × List En)} {r r0 r' : RSt}
theorem RFsP.setW {g o cap : Nat} (h0 : RFsP H F b (.slice (some ⟨g, o, none⟩) r.files.length cap) dv pv P Q r) (hx : Ext H H') {x : Nat} {w w' : Value} {d : Dt} (hP : P[x]? = some (w, d)) {ys : List Int} (ho : Own H' H.size 5 1 w' (ys.map (.int .u8))) :
    hcan H' g (o + x * 2) 1 ∧ RFsP (hput H' g (o + x * 2) [w']) (Gr F H H') b (.slice (some ⟨g, o, none⟩) r.files.length cap) dv pv (P.set x (w', (ys, d.2))) Q { r with files := r.files.set x (ys, d.2) } ∧ Ch F (Gr F H H') H (hput H' g (o + x * 2) [w']) := by
  obtain ⟨h, hc⟩ := h0.grow hx
  have hxl : x < P.length := (List.getElem?_eq_some_iff.1 hP).1
  have hxr : x < r.files.length := by rw [← h.flen]; exact hxl
  obtain ⟨_, p1, p2, p3⟩ := h.hF.cell (i := x * 2) (by omega) w'
  rw [← datC_setW (ys := ys) hP] at p2
  have hb : But (blk (.slice (some ⟨g, o, none⟩) r.files.length cap)) H' (hput H' g (o + x * 2) [w']) := p3
  have hsz : (hput H' g (o + x * 2) [w']).size = H'.size := hput_size _ _ _ _
  have hnew : ∀ p ∈ P, Apart w' p.1 := fun p hp => by
    cases hw : blk w' with
    | none => exact .inl hw
    | some k =>
      refine .inr fun e => ?_
      have h1 := (ho.blk hw).1
      have h2 := h0.lt k ((h0.hw p hp).2 k (by rw [← e, hw]))
      omega
  refine ⟨p1, ⟨by rw [List.map_set, h.eP], h.eQ, but_tag hb h.hF h.hM (by decide), p2, fun p hp => ?_, ?_, h.hD.byTag h.hF hb (by decide),
    fun p hp => ⟨(h.hv p hp).1.byTag h.hF hb (by decide), (h.hv p hp).2⟩, h.hP.byTag h.hF hb (by decide), h.fb, h.ff, h.fd, h.fp, fun k hk => by rw [hsz]; exact h.lt k hk⟩, ⟨by rw [hsz]; exact hx.size, hc.old, fun k hk hn => ?_⟩⟩
  · rcases List.mem_or_eq_of_mem_set hp with hp | rfl
    · exact ⟨(h.hw p hp).1.byTag h.hF hb (by decide), (h.hw p hp).2⟩
    · exact ⟨(ho.mono (Nat.zero_le _)).byTag h.hF hb (by decide), fun k hk => .inr ⟨(ho.blk hk).1, (ho.blk hk).2.1⟩⟩
  · rw [List.map_set, List.pairwise_iff_getElem]
    have hpw := List.pairwise_iff_getElem.1 h.ap
    intro i j hi hj hij
    rw [List.length_set] at hi hj
    by_cases e1 : x = i
    · subst e1
      rw [List.getElem_set_self, List.getElem_set_ne (by omega), List.getElem_map]
      exact hnew _ (List.getElem_mem _)
    · by_cases e2 : x = j
      · subst e2
        rw [List.getElem_set_self, List.getElem_set_ne (by omega), List.getElem_map]
        exact (hnew _ (List.getElem_mem _)).symm
      · rw [List.getElem_set_ne e1, List.getElem_set_ne e2]
        exact hpw i j hi hj hij
  · rw [hb.get k (Nat.lt_of_lt_of_le hk hx.size) fun e => hn (h0.ff k e.symm)]
    exact hx.get k hk
set_option maxHeartbeats 800000 in
theorem F70 (h : RFsP H F b fv dv pv P Q r) (ok : OkR r) (hm : 0 ≤ r.most ∧ r.most ≤ 2147483647) (hh : heldR r ≤ 4611686018427387904) (n : Nm) {v : Value} {bs : List Int} (hv : Ints H 5 .u8 v bs) (hbl : bs.length ≤ 70368744177664) :
    Fun Try.prog 70 #[ptrOf b, .string n, v] H (fun v H' => v = .int .i64 (appendR r n bs).2 ∧ ∃ F', RFsH H' F' b (appendR r n bs).1 ∧ Ch F F' H H') := by
  obtain ⟨av, cv, rfl⟩ := hv.form
  refine fun_of mixed (args := [_, _, _]) Try.func70 Try.ntmps70 b70 r70 rfl ?_
  obtain ⟨g0, g1, g2, g3, g4, g5, g6⟩ := h.get
  simp only [go_sem, ↓reduceIte, Nat.reduceEqDiff, Nat.reduceLeDiff, Nat.reduceAdd, Nat.reduceMul, Nat.reduceSub, Nat.reduceBEq, Nat.reduceGT, Nat.reduceLT, Int.reduceLE, Int.reduceLT, Int.reduceNeg, reduceCtorEq, ptrOf]
  refine FunI.by (F91 (b := b) g4 n) ?_
  rintro _ _ ⟨rfl, rfl⟩
  by_cases c0 : beginR r n = 0
  case neg =>
    have e : appendR r n bs = (r, beginR r n) := by unfold appendR; rw [if_pos c0]
    rw [e]
    simp only [go_sem, ↓reduceIte, Nat.reduceEqDiff, Nat.reduceLeDiff, Nat.reduceAdd, Nat.reduceMul, Nat.reduceSub, Nat.reduceBEq, Nat.reduceGT, Nat.reduceLT, Int.reduceLE, Int.reduceLT, Int.reduceNeg, reduceCtorEq, c0]
    exact ⟨F, ⟨_, _, _, _, _, h⟩, Ch.refl _ _⟩
  simp only [go_sem, ↓reduceIte, Nat.reduceEqDiff, Nat.reduceLeDiff, Nat.reduceAdd, Nat.reduceMul, Nat.reduceSub, Nat.reduceBEq, Nat.reduceGT, Nat.reduceLT, Int.reduceLE, Int.reduceLT, Int.reduceNeg, reduceCtorEq, c0]
  refine FunI.by (F87 h ok.dne (by have := ok.dl; omega)) ?_
  rintro v _ ⟨⟨ov, hvF⟩, rfl⟩
  simp only [go_sem, ↓reduceIte, Nat.reduceEqDiff, Nat.reduceLeDiff, Nat.reduceAdd, Nat.reduceMul, Nat.reduceSub, Nat.reduceBEq, Nat.reduceGT, Nat.reduceLT, Int.reduceLE, Int.reduceLT, Int.reduceNeg, reduceCtorEq]
  refine FunI.by (F92 ov.sl (by have := ok.nowL; omega) n) ?_
  rintro _ _ ⟨⟨kk, rfl, hkk⟩, rfl⟩
  rcases hkk with ⟨i, x, rfl, hi, hlk⟩ | ⟨rfl, hlk⟩
  case inr =>
    have e : appendR r n bs = (r, 82) := by unfold appendR; rw [if_neg (by simp [c0]), hlk]
    rw [e]
    simp only [go_sem, ↓reduceIte, Nat.reduceEqDiff, Nat.reduceLeDiff, Nat.reduceAdd, Nat.reduceMul, Nat.reduceSub, Nat.reduceBEq, Nat.reduceGT, Nat.reduceLT, Int.reduceLE, Int.reduceLT, Int.reduceNeg, reduceCtorEq]
    exact ⟨F, ⟨_, _, _, _, _, h⟩, Ch.refl _ _⟩
  have c1 : ¬ (i : Int) < 0 := by omega
  have hh0 : 0 ≤ heldR r := metF_le r _ (met0 r)
  have w1 : IntKind.i64.wrap (heldR r + (bs.length : Int)) = heldR r + bs.length := w64_id (by omega) (by omega)
  obtain ⟨d1, d2, d3⟩ := fileR_dt ok (ok.look hi)
  simp only [go_sem, ↓reduceIte, Nat.reduceEqDiff, Nat.reduceLeDiff, Nat.reduceAdd, Nat.reduceMul, Nat.reduceSub, Nat.reduceBEq, Nat.reduceGT, Nat.reduceLT, Int.reduceLE, Int.reduceLT, Int.reduceNeg, reduceCtorEq, c1, g0, ext_refl]
  refine FunI.by (F57 h ok hh) ?_
  rintro _ H1 ⟨rfl, x1⟩
  have h1 := h.ext x1
  have hc1 : Ch F F H H1 := x1.ch
  by_cases c2 : r.most < heldR r + bs.length
  · have e : appendR r n bs = (r, 80) := by unfold appendR; rw [if_neg (by simp [c0]), hlk]; exact if_pos c2
    rw [e]
    simp only [go_sem, ↓reduceIte, Nat.reduceEqDiff, Nat.reduceLeDiff, Nat.reduceAdd, Nat.reduceMul, Nat.reduceSub, Nat.reduceBEq, Nat.reduceGT, Nat.reduceLT, Int.reduceLE, Int.reduceLT, Int.reduceNeg, reduceCtorEq, w1, c2]
    exact ⟨x1, F, ⟨_, _, _, _, _, h1⟩, hc1⟩
  have e : appendR r n bs = powerR { r with files := r.files.set x ((fileR r x).1 ++ bs, (fileR r x).2) } := by unfold appendR; rw [if_neg (by simp [c0]), hlk]; exact if_neg c2
  rw [e]
  obtain ⟨gF, oF, capF, w, rfl, gw, gs, hP, ow, owF⟩ := h1.fget (ok.look hi)
  obtain ⟨_, q1, _⟩ := h1.get
  simp only [go_sem, ↓reduceIte, Nat.reduceEqDiff, Nat.reduceLeDiff, Nat.reduceAdd, Nat.reduceMul, Nat.reduceSub, Nat.reduceBEq, Nat.reduceGT, Nat.reduceLT, Int.reduceLE, Int.reduceLT, Int.reduceNeg, reduceCtorEq, w1, c2, q1, ext_refl]
  refine ⟨x1, ?_⟩
  refine FunI.by (F87 h1 ok.dne (by have := ok.dl; omega)) ?_
  rintro v _ ⟨⟨ov, hvF⟩, rfl⟩
  obtain ⟨a, cap, rfl⟩ := ent_form ov.sl
  obtain ⟨g, o, rfl, _, gf⟩ := ent_at ov.sl hi
  have c2 : (0 : Int) ≤ i := by omega
  have c3 : (i : Int) < r.now.length := by have := (List.getElem?_eq_some_iff.1 hi).1; omega
  have c4 : (0 : Int) ≤ x := by omega
  have c5 : (x : Int) < r.files.length := by have := ok.look hi; omega
  simp only [go_sem, ↓reduceIte, Nat.reduceEqDiff, Nat.reduceLeDiff, Nat.reduceAdd, Nat.reduceMul, Nat.reduceSub, Nat.reduceBEq, Nat.reduceGT, Nat.reduceLT, Int.reduceLE, Int.reduceLT, Int.reduceNeg, reduceCtorEq, c2, c3, c4, c5, Int.toNat_natCast, gf, gw, ext_refl]
  refine FunI.by (F69 w _ _ ow.sl (by omega)) ?_
  rintro u H2 ⟨ou, x2⟩
  have hv2 : Ints H2 5 .u8 (.slice av bs.length cv) bs := (hv.ext x1).ext x2
  simp only [go_sem, ↓reduceIte, Nat.reduceEqDiff, Nat.reduceLeDiff, Nat.reduceAdd, Nat.reduceMul, Nat.reduceSub, Nat.reduceBEq, Nat.reduceGT, Nat.reduceLT, Int.reduceLE, Int.reduceLT, Int.reduceNeg, reduceCtorEq]
  refine RunI.by (append_own (sz := 1) (by' := 1) ty34 ty5 rfl rfl rfl (by decide) ou hv2 (by simp [Value.oneCell']) (n := (fileR r x).1.length + bs.length) (by simp) (by omega) (by omega) x2.size) ?_
  rintro u' H3 ⟨o3, b3, _, _⟩
  have x3 : Ext H1 H3 := x2.trans (b3.upto (fun k hk => (ou.blk hk).1) x2.size)
  rw [← List.map_append] at o3
  obtain ⟨p1, h3, k3⟩ := h1.setW x3 hP o3
  have eu := Sl.form o3.sl
  obtain ⟨_, _, _, rfl⟩ := eu
  simp only [go_sem, ↓reduceIte, Nat.reduceEqDiff, Nat.reduceLeDiff, Nat.reduceAdd, Nat.reduceMul, Nat.reduceSub, Nat.reduceBEq, Nat.reduceGT, Nat.reduceLT, Int.reduceLE, Int.reduceLT, Int.reduceNeg, reduceCtorEq, p1]
  refine ⟨rfl, ?_⟩
  refine FunI.by (F94 h3 (begin_on c0) ok.arm ok.cnt) ?_
  rintro _ H4 ⟨rfl, h4, k4⟩
  simp only [go_sem, ↓reduceIte, Nat.reduceEqDiff, Nat.reduceLeDiff, Nat.reduceAdd, Nat.reduceMul, Nat.reduceSub, Nat.reduceBEq, Nat.reduceGT, Nat.reduceLT, Int.reduceLE, Int.reduceLT, Int.reduceNeg, reduceCtorEq]
  exact ⟨_, ⟨_, _, _, _, _, h4⟩, (hc1.trans k3).trans k4⟩
end
end Go.Proofs.Ytmkheogjnlmkdaa
