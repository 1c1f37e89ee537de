/- The reference: Sync, Rot. -/
import Derived.Test.YtmkheogjnlmkdaaVRfH
set_option linter.unusedSimpArgs false
set_option linter.unusedVariables false
set_option maxRecDepth 20000
namespace Go.V
open Go
theorem set_same {α : Type} {a : α} : ∀ {l : List α} {x : Nat}, l[x]? = some a → l.set x a = l
  | [], x, h => by simp at h
  | y :: l, 0, h => by simp only [List.getElem?_cons_zero, Option.some.injEq] at h; subst h; rfl
  | y :: l, x + 1, h => by rw [List.set_cons_succ, set_same (by simpa using h)]
theorem datC_setD {w : Value} {d : Dt} {ys : List Int} {P : List (Value × Dt)} {x : Nat} (h : P[x]? = some (w, d)) : datC (P.set x (w, (ys, d.2))) = datC P := by
  rw [datC_setW h]
  apply set_same
  have := fl_get (f := fun p : Value × Dt => [p.1, Value.int .i64 p.2.2]) (k := 2) (fun _ => rfl) P x 0 (w, d) h (by omega)
  exact this
theorem map_setW {w : Value} {d d' : Dt} {P : List (Value × Dt)} {x : Nat} (h : P[x]? = some (w, d)) : (P.set x (w, d')).map (·.1) = P.map (·.1) := by
  rw [List.map_set]
  exact set_same (by rw [List.getElem?_map, h]; rfl)
end Go.V
namespace Go.Proofs.Ytmkheogjnlmkdaa
open Go Go.V
-- 87: (*pith/pithref8.FS).now
-- 92: pith/pithref8.at
-- 91: (*pith/pithref8.FS).begins
-- 96: pith/pithref8.named
-- 95: (*pith/pithref8.FS).fails
-- 71: (*pith/pithref8.FS).Sync
-- 82: (*pith/pithref8.FS).Rot
-- 100: pithref8.FS
-- 5: uint8
-- 125: pithref8.Entry
-- 122: []pithref8.Entry
-- 129: pithref8.Data
-- 139: pithref8.Done
section
variable {H H' : Heap} {F F' : Nat → Prop} {b : Nat} {fv dv pv fv' dv' pv' : Value} {P P' : List (Value × Dt)} {Q Q' : List (Value × List En)} {r r0 r' : RSt}
theorem RFsP.setSyn {g o cap : Nat} (h : RFsP H F b (.slice (some ⟨g, o, none⟩) r.files.length cap) dv pv P Q r) {x : Nat} {w : Value} {d : Dt} (hP : P[x]? = some (w, d)) (s : Nat) :
    hcan H g (o + x * 2 + 1) 1 ∧ RFsP (hput H g (o + x * 2 + 1) [.int .i64 s]) F b (.slice (some ⟨g, o, none⟩) r.files.length cap) dv pv (P.set x (w, (d.1, s))) Q { r with files := r.files.set x (d.1, s) } ∧ Ch F F H (hput H g (o + x * 2 + 1) [.int .i64 s]) := by
  have hx : x < r.files.length := by rw [← h.flen]; exact (List.getElem?_eq_some_iff.1 hP).1
  obtain ⟨_, p1, p2, p3⟩ := h.hF.cell (i := x * 2 + 1) (by omega) (.int .i64 s)
  rw [← Nat.add_assoc] at p1 p2 p3
  rw [← datC_setS hP] at p2
  have hb : But (blk (.slice (some ⟨g, o, none⟩) r.files.length cap)) H (hput H g (o + x * 2 + 1) [.int .i64 s]) := p3
  refine ⟨p1, ⟨by rw [List.map_set, h.eP], h.eQ, but_tag hb h.hF h.hM (by decide), p2, fun p hp => ?_, by rw [map_setW hP]; exact h.ap, h.hD.byTag h.hF hb (by decide),
    fun p hp => ⟨(h.hv p hp).1.byTag h.hF hb (by decide), (h.hv p hp).2⟩, h.hP.byTag h.hF hb (by decide), h.fb, h.ff, h.fd, h.fp, fun g hg => by rw [hput_size]; exact h.lt g hg⟩, ⟨hb.size, fun _ h => .inl h, fun k hk hn => hb.get k hk fun e => hn (h.ff k e.symm)⟩⟩
  have hm := h.hw _ (List.mem_of_getElem? hP)
  rcases List.mem_or_eq_of_mem_set hp with hp | rfl
  · exact ⟨(h.hw p hp).1.byTag h.hF hb (by decide), (h.hw p hp).2⟩
  · exact ⟨hm.1.byTag h.hF hb (by decide), hm.2⟩
theorem RFsP.setRot (h : RFsP H F b fv dv pv P Q r) {x g o len cap : Nat} {d : Dt} (hP : P[x]? = some (.slice (some ⟨g, o, none⟩) len cap, d)) {a : Nat} (ha : a < len) (c : Int) :
    hcan H g (o + a) 1 ∧ RFsP (hput H g (o + a) [.int .u8 c]) F b fv dv pv (P.set x (.slice (some ⟨g, o, none⟩) len cap, (d.1.set a c, d.2))) Q { r with files := r.files.set x (d.1.set a c, d.2) } ∧ Ch F F H (hput H g (o + a) [.int .u8 c]) := by
  have hm := h.hw _ (List.mem_of_getElem? hP)
  obtain ⟨_, p1, p2, p3⟩ := hm.1.cell (i := a) (by omega) (.int .u8 c)
  rw [← List.map_set] at p2
  have hb : But (blk (.slice (some ⟨g, o, none⟩) len cap)) H (hput H g (o + a) [.int .u8 c]) := p3
  refine ⟨p1, ⟨by rw [List.map_set, h.eP], h.eQ, but_tag hb hm.1 h.hM (by decide), by rw [datC_setD hP]; exact h.hF.byTag hm.1 hb (by decide), fun p hp => ?_, by rw [map_setW hP]; exact h.ap, h.hD.byTag hm.1 hb (by decide),
    fun p hp => ⟨(h.hv p hp).1.byTag hm.1 hb (by decide), (h.hv p hp).2⟩, h.hP.byTag hm.1 hb (by decide), h.fb, h.ff, h.fd, h.fp, fun g hg => by rw [hput_size]; exact h.lt g hg⟩, ⟨hb.size, fun _ h => .inl h, fun k hk hn => hb.get k hk fun e => hn (hm.2 k e.symm)⟩⟩
  obtain ⟨j, hj, hjp⟩ := List.getElem_of_mem hp
  rw [List.length_set] at hj
  by_cases hjx : x = j
  · subst hjx
    rw [List.getElem_set_self] at hjp
    subst hjp
    exact ⟨p2, hm.2⟩
  · rw [List.getElem_set_ne hjx] at hjp
    have hpm : p ∈ P := by rw [← hjp]; exact List.getElem_mem _
    have hxl : x < P.length := (List.getElem?_eq_some_iff.1 hP).1
    have hxe := (List.getElem?_eq_some_iff.1 hP).2
    have hap : Apart p.1 (.slice (some ⟨g, o, none⟩) len cap) := by
      have hpw := List.pairwise_iff_getElem.1 h.ap
      rcases Nat.lt_or_ge j x with hlt | hge
      · have := hpw j x (by simpa using hj) (by simpa using hxl) hlt
        rw [List.getElem_map, List.getElem_map, hjp, hxe] at this
        exact this
      · have := hpw x j (by simpa using hxl) (by simpa using hj) (by omega)
        rw [List.getElem_map, List.getElem_map, hjp, hxe] at this
        exact this.symm
    exact ⟨(h.hw p hpm).1.out hb hap, (h.hw p hpm).2⟩
set_option maxHeartbeats 800000 in
theorem F71 (h : RFsP H F b fv dv pv P Q r) (ok : OkR r) (n : Nm) :
    Fun Try.prog 71 #[ptrOf b, .string n] H (fun v H' => v = .int .i64 (syncR r n).2 ∧ ∃ F', RFsH H' F' b (syncR r n).1 ∧ Ch F F' H H') := by
  refine fun_of mixed (args := [_, _]) Try.func71 Try.ntmps71 b71 r71 rfl ?_
  obtain ⟨g0, g1, g2, g3, g4, g5, g6⟩ := h.get
  simp only [go_sem, ↓reduceIte, Nat.reduceEqDiff, Nat.reduceLeDiff, Nat.reduceAdd, Nat.reduceMul, Nat.reduceSub, Nat.reduceBEq, Nat.reduceGT, Nat.reduceLT, Int.reduceLE, Int.reduceLT, Int.reduceNeg, reduceCtorEq, ptrOf]
  refine FunI.by (F91 (b := b) g4 n) ?_
  rintro _ _ ⟨rfl, rfl⟩
  by_cases c0 : beginR r n = 0
  case neg =>
    have e : syncR r n = (r, beginR r n) := by unfold syncR; rw [if_pos c0]
    rw [e]
    simp only [go_sem, ↓reduceIte, Nat.reduceEqDiff, Nat.reduceLeDiff, Nat.reduceAdd, Nat.reduceMul, Nat.reduceSub, Nat.reduceBEq, Nat.reduceGT, Nat.reduceLT, Int.reduceLE, Int.reduceLT, Int.reduceNeg, reduceCtorEq, c0]
    exact ⟨F, ⟨_, _, _, _, _, h⟩, Ch.refl _ _⟩
  simp only [go_sem, ↓reduceIte, Nat.reduceEqDiff, Nat.reduceLeDiff, Nat.reduceAdd, Nat.reduceMul, Nat.reduceSub, Nat.reduceBEq, Nat.reduceGT, Nat.reduceLT, Int.reduceLE, Int.reduceLT, Int.reduceNeg, reduceCtorEq, c0]
  refine FunI.by (F87 h ok.dne (by have := ok.dl; omega)) ?_
  rintro v _ ⟨⟨ov, hvF⟩, rfl⟩
  simp only [go_sem, ↓reduceIte, Nat.reduceEqDiff, Nat.reduceLeDiff, Nat.reduceAdd, Nat.reduceMul, Nat.reduceSub, Nat.reduceBEq, Nat.reduceGT, Nat.reduceLT, Int.reduceLE, Int.reduceLT, Int.reduceNeg, reduceCtorEq]
  refine FunI.by (F92 ov.sl (by have := ok.nowL; omega) n) ?_
  rintro _ _ ⟨⟨kk, rfl, hkk⟩, rfl⟩
  rcases hkk with ⟨i, x, rfl, hi, hlk⟩ | ⟨rfl, hlk⟩
  case inr =>
    have e : syncR r n = (r, 82) := by unfold syncR; rw [if_neg (by simp [c0]), hlk]
    rw [e]
    simp only [go_sem, ↓reduceIte, Nat.reduceEqDiff, Nat.reduceLeDiff, Nat.reduceAdd, Nat.reduceMul, Nat.reduceSub, Nat.reduceBEq, Nat.reduceGT, Nat.reduceLT, Int.reduceLE, Int.reduceLT, Int.reduceNeg, reduceCtorEq]
    exact ⟨F, ⟨_, _, _, _, _, h⟩, Ch.refl _ _⟩
  have c1 : ¬ (i : Int) < 0 := by omega
  simp only [go_sem, ↓reduceIte, Nat.reduceEqDiff, Nat.reduceLeDiff, Nat.reduceAdd, Nat.reduceMul, Nat.reduceSub, Nat.reduceBEq, Nat.reduceGT, Nat.reduceLT, Int.reduceLE, Int.reduceLT, Int.reduceNeg, reduceCtorEq, c1]
  refine FunI.by (F95 h (begin_on c0) ok.arm ok.cnt) ?_
  rintro _ H1 ⟨rfl, h1, k1⟩
  cases hf : (failsR r).2 with
  | true =>
    have e : syncR r n = ((failsR r).1, 81) := by unfold syncR; rw [if_neg (by simp [c0]), hlk]; simp only [hf, if_true]
    rw [e]
    simp only [go_sem, ↓reduceIte, Nat.reduceEqDiff, Nat.reduceLeDiff, Nat.reduceAdd, Nat.reduceMul, Nat.reduceSub, Nat.reduceBEq, Nat.reduceGT, Nat.reduceLT, Int.reduceLE, Int.reduceLT, Int.reduceNeg, reduceCtorEq]
    exact ⟨F, ⟨_, _, _, _, _, h1⟩, k1⟩
  | false =>
    have e : syncR r n = ({ (failsR r).1 with files := r.files.set x ((fileR r x).1, (fileR r x).1.length) }, 0) := by unfold syncR; rw [if_neg (by simp [c0]), hlk]; simp only [hf]; rfl
    have ed : (failsR r).1.dirs = r.dirs := by unfold failsR; split <;> rfl
    have ef : (failsR r).1.files = r.files := by unfold failsR; split <;> rfl
    have en : (failsR r).1.now = r.now := by unfold RSt.now; rw [ed]
    have efr : fileR (failsR r).1 x = fileR r x := by unfold fileR; rw [ef]
    rw [e]
    obtain ⟨gF, oF, capF, w, rfl, gw, gs, hP, ow, owF⟩ := h1.fget (x := x) (by rw [ef]; exact ok.look hi)
    obtain ⟨_, q1, _⟩ := h1.get
    obtain ⟨p1, h2, k2⟩ := h1.setSyn hP (fileR r x).1.length
    rw [efr] at h2 ow
    rw [ef] at h2
    rw [ef] at q1
    simp only [go_sem, ↓reduceIte, Nat.reduceEqDiff, Nat.reduceLeDiff, Nat.reduceAdd, Nat.reduceMul, Nat.reduceSub, Nat.reduceBEq, Nat.reduceGT, Nat.reduceLT, Int.reduceLE, Int.reduceLT, Int.reduceNeg, reduceCtorEq, q1, ext_refl]
    refine FunI.by (F87 h1 (by rw [ed]; exact ok.dne) (by rw [ed]; have := ok.dl; omega)) ?_
    rintro v _ ⟨⟨ov, hvF⟩, rfl⟩
    rw [en] at ov
    obtain ⟨a, cap, rfl⟩ := ent_form ov.sl
    obtain ⟨g, o, rfl, _, gf⟩ := ent_at ov.sl hi
    have c2 : (0 : Int) ≤ i := by omega
    have c3 : (i : Int) < r.now.length := by have := (List.getElem?_eq_some_iff.1 hi).1; omega
    have c4 : (0 : Int) ≤ x := by omega
    have c5 : (x : Int) < r.files.length := by have := ok.look hi; omega
    obtain ⟨aw, cw, rfl⟩ := Ints.form (show Ints H1 5 .u8 w _ from ow.sl)
    simp only [go_sem, ↓reduceIte, Nat.reduceEqDiff, Nat.reduceLeDiff, Nat.reduceAdd, Nat.reduceMul, Nat.reduceSub, Nat.reduceBEq, Nat.reduceGT, Nat.reduceLT, Int.reduceLE, Int.reduceLT, Int.reduceNeg, reduceCtorEq, c2, c3, c4, c5, Int.toNat_natCast, gf, gw, ext_refl, p1]
    exact ⟨rfl, F, ⟨_, _, _, _, _, h2⟩, k1.trans k2⟩
set_option maxHeartbeats 1600000 in
theorem F82 (h : RFsP H F b fv dv pv P Q r) (ok : OkR r) (n : Nm) (a' c : Int) :
    Fun Try.prog 82 #[ptrOf b, .string n, .int .i64 a', .int .i64 c] H (fun v H' => v = .int .i64 (rotR r n a' c).2 ∧ ∃ F', RFsH H' F' b (rotR r n a' c).1 ∧ Ch F F' H H') := by
  refine fun_of mixed (args := [_, _, _, _]) Try.func82 Try.ntmps82 b82 r82 rfl ?_
  obtain ⟨g0, g1, g2, g3, g4, g5, g6⟩ := h.get
  simp only [go_sem, ↓reduceIte, Nat.reduceEqDiff, Nat.reduceLeDiff, Nat.reduceAdd, Nat.reduceMul, Nat.reduceSub, Nat.reduceBEq, Nat.reduceGT, Nat.reduceLT, Int.reduceLE, Int.reduceLT, Int.reduceNeg, reduceCtorEq, ptrOf]
  refine FunI.by (F96 n H) ?_
  rintro _ _ ⟨rfl, rfl⟩
  cases hn : isNm n with
  | false =>
    have e : rotR r n a' c = (r, 84) := by unfold rotR; rw [if_pos hn]
    rw [e]
    simp only [go_sem, ↓reduceIte, Nat.reduceEqDiff, Nat.reduceLeDiff, Nat.reduceAdd, Nat.reduceMul, Nat.reduceSub, Nat.reduceBEq, Nat.reduceGT, Nat.reduceLT, Int.reduceLE, Int.reduceLT, Int.reduceNeg, reduceCtorEq]
    exact ⟨F, ⟨_, _, _, _, _, h⟩, Ch.refl _ _⟩
  | true =>
  simp only [go_sem, ↓reduceIte, Nat.reduceEqDiff, Nat.reduceLeDiff, Nat.reduceAdd, Nat.reduceMul, Nat.reduceSub, Nat.reduceBEq, Nat.reduceGT, Nat.reduceLT, Int.reduceLE, Int.reduceLT, Int.reduceNeg, reduceCtorEq]
  refine FunI.by (F87 h ok.dne (by have := ok.dl; omega)) ?_
  rintro v _ ⟨⟨ov, hvF⟩, rfl⟩
  simp only [go_sem, ↓reduceIte, Nat.reduceEqDiff, Nat.reduceLeDiff, Nat.reduceAdd, Nat.reduceMul, Nat.reduceSub, Nat.reduceBEq, Nat.reduceGT, Nat.reduceLT, Int.reduceLE, Int.reduceLT, Int.reduceNeg, reduceCtorEq]
  refine FunI.by (F92 ov.sl (by have := ok.nowL; omega) n) ?_
  rintro _ _ ⟨⟨kk, rfl, hkk⟩, rfl⟩
  rcases hkk with ⟨i, x, rfl, hi, hlk⟩ | ⟨rfl, hlk⟩
  case inr =>
    have e : rotR r n a' c = (r, 82) := by unfold rotR; rw [if_neg (by simp [hn]), hlk]
    rw [e]
    simp only [go_sem, ↓reduceIte, Nat.reduceEqDiff, Nat.reduceLeDiff, Nat.reduceAdd, Nat.reduceMul, Nat.reduceSub, Nat.reduceBEq, Nat.reduceGT, Nat.reduceLT, Int.reduceLE, Int.reduceLT, Int.reduceNeg, reduceCtorEq]
    exact ⟨F, ⟨_, _, _, _, _, h⟩, Ch.refl _ _⟩
  have c1 : ¬ (i : Int) < 0 := by omega
  obtain ⟨gF, oF, capF, w, rfl, gw, gs, hP, ow, owF⟩ := h.fget (ok.look hi)
  obtain ⟨d1, d2, d3⟩ := fileR_dt ok (ok.look hi)
  simp only [go_sem, ↓reduceIte, Nat.reduceEqDiff, Nat.reduceLeDiff, Nat.reduceAdd, Nat.reduceMul, Nat.reduceSub, Nat.reduceBEq, Nat.reduceGT, Nat.reduceLT, Int.reduceLE, Int.reduceLT, Int.reduceNeg, reduceCtorEq, c1, g1, ext_refl]
  refine FunI.by (F87 h ok.dne (by have := ok.dl; omega)) ?_
  rintro v _ ⟨⟨ov, hvF⟩, rfl⟩
  obtain ⟨a, cap, rfl⟩ := ent_form ov.sl
  obtain ⟨g, o, rfl, _, gf⟩ := ent_at ov.sl hi
  have c2 : (0 : Int) ≤ i := by omega
  have c3 : (i : Int) < r.now.length := by have := (List.getElem?_eq_some_iff.1 hi).1; omega
  have c4 : (0 : Int) ≤ x := by omega
  have c5 : (x : Int) < r.files.length := by have := ok.look hi; omega
  obtain ⟨aw, cw, rfl⟩ := Ints.form (show Ints H 5 .u8 w _ from ow.sl)
  have bad : (a' < 0 ∨ ((fileR r x).1.length : Int) ≤ a' ∨ c < 1 ∨ 255 < c) → rotR r n a' c = (r, 85) := fun hb => by unfold rotR; rw [if_neg (by simp [hn]), hlk]; exact if_pos hb
  by_cases b1 : a' < 0
  · rw [bad (.inl b1)]
    simp only [go_sem, ↓reduceIte, Nat.reduceEqDiff, Nat.reduceLeDiff, Nat.reduceAdd, Nat.reduceMul, Nat.reduceSub, Nat.reduceBEq, Nat.reduceGT, Nat.reduceLT, Int.reduceLE, Int.reduceLT, Int.reduceNeg, reduceCtorEq, c2, c3, c4, c5, Int.toNat_natCast, gf, gw, ext_refl, b1]
    exact ⟨F, ⟨_, _, _, _, _, h⟩, Ch.refl _ _⟩
  by_cases b2 : ((fileR r x).1.length : Int) ≤ a'
  · rw [bad (.inr (.inl b2))]
    simp only [go_sem, ↓reduceIte, Nat.reduceEqDiff, Nat.reduceLeDiff, Nat.reduceAdd, Nat.reduceMul, Nat.reduceSub, Nat.reduceBEq, Nat.reduceGT, Nat.reduceLT, Int.reduceLE, Int.reduceLT, Int.reduceNeg, reduceCtorEq, c2, c3, c4, c5, Int.toNat_natCast, gf, gw, ext_refl, b1, b2]
    exact ⟨F, ⟨_, _, _, _, _, h⟩, Ch.refl _ _⟩
  by_cases b3 : c < 1
  · rw [bad (.inr (.inr (.inl b3)))]
    simp only [go_sem, ↓reduceIte, Nat.reduceEqDiff, Nat.reduceLeDiff, Nat.reduceAdd, Nat.reduceMul, Nat.reduceSub, Nat.reduceBEq, Nat.reduceGT, Nat.reduceLT, Int.reduceLE, Int.reduceLT, Int.reduceNeg, reduceCtorEq, c2, c3, c4, c5, Int.toNat_natCast, gf, gw, ext_refl, b1, b2, b3]
    exact ⟨F, ⟨_, _, _, _, _, h⟩, Ch.refl _ _⟩
  by_cases b4 : 255 < c
  · rw [bad (.inr (.inr (.inr b4)))]
    simp only [go_sem, ↓reduceIte, Nat.reduceEqDiff, Nat.reduceLeDiff, Nat.reduceAdd, Nat.reduceMul, Nat.reduceSub, Nat.reduceBEq, Nat.reduceGT, Nat.reduceLT, Int.reduceLE, Int.reduceLT, Int.reduceNeg, reduceCtorEq, c2, c3, c4, c5, Int.toNat_natCast, gf, gw, ext_refl, b1, b2, b3, b4]
    exact ⟨F, ⟨_, _, _, _, _, h⟩, Ch.refl _ _⟩
  have e : rotR r n a' c = ({ r with files := r.files.set x (rotD (fileR r x).1 a'.toNat c, (fileR r x).2) }, 0) := by unfold rotR; rw [if_neg (by simp [hn]), hlk]; exact if_neg (by omega)
  rw [e]
  obtain ⟨p, hp⟩ : ∃ p : Nat, a' = p := ⟨a'.toNat, by omega⟩
  subst hp
  have hpl : p < (fileR r x).1.length := by omega
  obtain ⟨gw', ow', rfl⟩ := Sl.at ow.sl (by omega)
  have gb := Ints.get (show Ints H 5 .u8 _ _ from ow.sl) (i := p) hpl
  obtain ⟨p1, h2, k2⟩ := h.setRot hP hpl (ibits .xor .u8 ((fileR r x).1.getD p 0) c)
  have w1 : IntKind.u8.wrap c = c := wu8_id (by omega) (by omega)
  have z0 : (0 : Int) ≤ (p : Int) := by omega
  have z1 : (p : Int) < (fileR r x).1.length := by omega
  simp only [go_sem, ↓reduceIte, Nat.reduceEqDiff, Nat.reduceLeDiff, Nat.reduceAdd, Nat.reduceMul, Nat.reduceSub, Nat.reduceBEq, Nat.reduceGT, Nat.reduceLT, Int.reduceLE, Int.reduceLT, Int.reduceNeg, reduceCtorEq, c2, c3, c4, c5, Int.toNat_natCast, gf, gw, ext_refl, b1, b2, b3, b4, gb, w1, z0, z1, p1]
  exact ⟨rfl, F, ⟨_, _, _, _, _, h2⟩, k2⟩
end
end Go.Proofs.Ytmkheogjnlmkdaa
