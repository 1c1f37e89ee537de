/- The reference: Read, Sync, Rot. -/
import Derived.Test.YtmkheogjnlmkdaaVRfG
set_option linter.unusedSimpArgs false
set_option linter.unusedVariables false
set_option maxRecDepth 20000
namespace Go.Proofs.Ytmkheogjnlmkdaa
open Go Go.V
-- 87: (*pith/pithref8.FS).now
-- 92: pith/pithref8.at
-- 91: (*pith/pithref8.FS).begins
-- 96: pith/pithref8.named
-- 95: (*pith/pithref8.FS).fails
-- 75: (*pith/pithref8.FS).Read
-- 71: (*pith/pithref8.FS).Sync
-- 82: (*pith/pithref8.FS).Rot
-- 69: pith/pithref.Bytes
-- 100: pithref8.FS
-- 5: uint8
-- 125: pithref8.Entry
-- 122: []pithref8.Entry
-- 129: pithref8.Data
def readR (r : RSt) (n : Nm) (a k : Int) : List Int × Int :=
  if beginR r n ≠ 0 then ([], beginR r n) else match lookE r.now n with
    | none => ([], 82)
    | some x => if a < 0 ∨ k < 0 then ([], 85) else (((fileR r x).1.drop a.toNat).take k.toNat, 0)
def syncR (r : RSt) (n : Nm) : RSt × Int :=
  if beginR r n ≠ 0 then (r, beginR r n) else match lookE r.now n with
    | none => (r, 82)
    | some x => if (failsR r).2 then ((failsR r).1, 81) else ({ (failsR r).1 with files := r.files.set x ((fileR r x).1, (fileR r x).1.length) }, 0)
def rotR (r : RSt) (n : Nm) (a x : Int) : RSt × Int :=
  if isNm n = false then (r, 84) else match lookE r.now n with
    | none => (r, 82)
    | some f => if a < 0 ∨ ((fileR r f).1.length : Int) ≤ a ∨ x < 1 ∨ 255 < x then (r, 85) else ({ r with files := r.files.set f (rotD (fileR r f).1 a.toNat x, (fileR r f).2) }, 0)
section
variable {H H' : Heap} {F F' : Nat → Prop} {b : Nat} {fv dv pv fv' dv' pv' : Value} {P P' : List (Value × Dt)} {Q Q' : List (Value × List En)} {r r0 r' : RSt}
theorem fileR_dt {r : RSt} (ok : OkR r) {x : Nat} (hx : x < r.files.length) : (fileR r x).2 ≤ (fileR r x).1.length ∧ (fileR r x).1.length ≤ 2147483647 ∧ Byt (fileR r x).1 := by
  have e : fileR r x = r.files[x] := by unfold fileR; rw [List.getD_eq_getElem?_getD, List.getElem?_eq_getElem hx]; rfl
  rw [e]
  exact ok.dt _ (List.getElem_mem _)
set_option maxHeartbeats 1600000 in
theorem F75 (h : RFsP H F b fv dv pv P Q r) (ok : OkR r) (n : Nm) (at' k : Int) (hk : k < 9223372036854775808) :
    Fun Try.prog 75 #[ptrOf b, .string n, .int .i64 at', .int .i64 k] H (fun v H' => ∃ u, v = .tuple #[u, .int .i64 (readR r n at' k).2] ∧ Own H' H.size 5 1 u ((readR r n at' k).1.map (.int .u8)) ∧ Ext H H') := by
  refine fun_of mixed (args := [_, _, _, _]) Try.func75 Try.ntmps75 b75 r75 rfl ?_
  obtain ⟨g0, g1, g2, g3, g4, g5, g6⟩ := h.get
  simp only [go_sem, ↓reduceIte, Nat.reduceEqDiff, Nat.reduceLeDiff, Nat.reduceAdd, Nat.reduceMul, Nat.reduceSub, Nat.reduceBEq, Nat.reduceGT, Nat.reduceLT, Int.reduceLE, Int.reduceLT, Int.reduceNeg, reduceCtorEq, ptrOf]
  refine FunI.by (F91 (b := b) g4 n) ?_
  rintro _ _ ⟨rfl, rfl⟩
  by_cases c0 : beginR r n = 0
  case neg =>
    have e : readR r n at' k = ([], beginR r n) := by unfold readR; rw [if_pos c0]
    rw [e]
    simp only [go_sem, ↓reduceIte, Nat.reduceEqDiff, Nat.reduceLeDiff, Nat.reduceAdd, Nat.reduceMul, Nat.reduceSub, Nat.reduceBEq, Nat.reduceGT, Nat.reduceLT, Int.reduceLE, Int.reduceLT, Int.reduceNeg, reduceCtorEq, c0]
    exact ⟨_, rfl, Own.nil, Upto.refl _ _⟩
  simp only [go_sem, ↓reduceIte, Nat.reduceEqDiff, Nat.reduceLeDiff, Nat.reduceAdd, Nat.reduceMul, Nat.reduceSub, Nat.reduceBEq, Nat.reduceGT, Nat.reduceLT, Int.reduceLE, Int.reduceLT, Int.reduceNeg, reduceCtorEq, c0]
  refine FunI.by (F87 h ok.dne (by have := ok.dl; omega)) ?_
  rintro v _ ⟨⟨ov, hvF⟩, rfl⟩
  simp only [go_sem, ↓reduceIte, Nat.reduceEqDiff, Nat.reduceLeDiff, Nat.reduceAdd, Nat.reduceMul, Nat.reduceSub, Nat.reduceBEq, Nat.reduceGT, Nat.reduceLT, Int.reduceLE, Int.reduceLT, Int.reduceNeg, reduceCtorEq]
  refine FunI.by (F92 ov.sl (by have := ok.nowL; omega) n) ?_
  rintro _ _ ⟨⟨kk, rfl, hkk⟩, rfl⟩
  rcases hkk with ⟨i, x, rfl, hi, hlk⟩ | ⟨rfl, hlk⟩
  case inr =>
    have e : readR r n at' k = ([], 82) := by unfold readR; rw [if_neg (by simp [c0]), hlk]
    rw [e]
    simp only [go_sem, ↓reduceIte, Nat.reduceEqDiff, Nat.reduceLeDiff, Nat.reduceAdd, Nat.reduceMul, Nat.reduceSub, Nat.reduceBEq, Nat.reduceGT, Nat.reduceLT, Int.reduceLE, Int.reduceLT, Int.reduceNeg, reduceCtorEq]
    exact ⟨_, rfl, Own.nil, Upto.refl _ _⟩
  have c1 : ¬ (i : Int) < 0 := by omega
  by_cases ca : at' < 0
  · have e : readR r n at' k = ([], 85) := by unfold readR; rw [if_neg (by simp [c0]), hlk]; exact if_pos (.inl ca)
    rw [e]
    simp only [go_sem, ↓reduceIte, Nat.reduceEqDiff, Nat.reduceLeDiff, Nat.reduceAdd, Nat.reduceMul, Nat.reduceSub, Nat.reduceBEq, Nat.reduceGT, Nat.reduceLT, Int.reduceLE, Int.reduceLT, Int.reduceNeg, reduceCtorEq, c1, ca]
    exact ⟨_, rfl, Own.nil, Upto.refl _ _⟩
  by_cases ck : k < 0
  · have e : readR r n at' k = ([], 85) := by unfold readR; rw [if_neg (by simp [c0]), hlk]; exact if_pos (.inr ck)
    rw [e]
    simp only [go_sem, ↓reduceIte, Nat.reduceEqDiff, Nat.reduceLeDiff, Nat.reduceAdd, Nat.reduceMul, Nat.reduceSub, Nat.reduceBEq, Nat.reduceGT, Nat.reduceLT, Int.reduceLE, Int.reduceLT, Int.reduceNeg, reduceCtorEq, c1, ca, ck]
    exact ⟨_, rfl, Own.nil, Upto.refl _ _⟩
  have e : readR r n at' k = (((fileR r x).1.drop at'.toNat).take k.toNat, 0) := by unfold readR; rw [if_neg (by simp [c0]), hlk]; exact if_neg (by rintro (h | h) <;> omega)
  rw [e]
  obtain ⟨gF, oF, capF, w, rfl, gw, gs, hP, ow, owF⟩ := h.fget (ok.look hi)
  obtain ⟨d1, d2, d3⟩ := fileR_dt ok (ok.look hi)
  simp only [go_sem, ↓reduceIte, Nat.reduceEqDiff, Nat.reduceLeDiff, Nat.reduceAdd, Nat.reduceMul, Nat.reduceSub, Nat.reduceBEq, Nat.reduceGT, Nat.reduceLT, Int.reduceLE, Int.reduceLT, Int.reduceNeg, reduceCtorEq, c1, ca, ck, g1, ext_refl]
  refine FunI.by (F87 h ok.dne (by have := ok.dl; omega)) ?_
  rintro v _ ⟨⟨ov, hvF⟩, rfl⟩
  obtain ⟨a, cap, rfl⟩ := ent_form ov.sl
  obtain ⟨g, o, rfl, _, gf⟩ := ent_at ov.sl hi
  have c2 : (0 : Int) ≤ i := by omega
  have c3 : (i : Int) < r.now.length := by have := (List.getElem?_eq_some_iff.1 hi).1; omega
  have c4 : (0 : Int) ≤ x := by omega
  have c5 : (x : Int) < r.files.length := by have := ok.look hi; omega
  obtain ⟨aw, cw, rfl⟩ := Ints.form (show Ints H 5 .u8 w _ from ow.sl)
  generalize hdd : (fileR r x).1 = d at *
  by_cases cl : (d.length : Int) ≤ at'
  · have e2 : (d.drop at'.toNat).take k.toNat = [] := by rw [List.drop_eq_nil_of_le (by omega), List.take_nil]
    rw [e2]
    simp only [go_sem, ↓reduceIte, Nat.reduceEqDiff, Nat.reduceLeDiff, Nat.reduceAdd, Nat.reduceMul, Nat.reduceSub, Nat.reduceBEq, Nat.reduceGT, Nat.reduceLT, Int.reduceLE, Int.reduceLT, Int.reduceNeg, reduceCtorEq, c2, c3, c4, c5, Int.toNat_natCast, gf, gw, ext_refl, cl]
    exact ⟨_, rfl, Own.nil⟩
  obtain ⟨lo, hlo⟩ : ∃ lo : Nat, at' = lo := ⟨at'.toNat, by omega⟩
  subst hlo
  obtain ⟨mn, hmn⟩ : ∃ mn, mn = min k.toNat (d.length - lo) := ⟨_, rfl⟩
  have w1 : IntKind.i64.wrap ((d.length : Int) - (lo : Int)) = ((d.length - lo : Nat) : Int) := by rw [w64_id (by omega) (by omega)]; omega
  have e3 : (if ((d.length - lo : Nat) : Int) < k then ((d.length - lo : Nat) : Int) else k) = (mn : Int) := by split <;> omega
  have w2 : IntKind.i64.wrap ((lo : Int) + (mn : Int)) = ((lo + mn : Nat) : Int) := by rw [w64_id (by omega) (by omega)]; omega
  have hcap : d.length ≤ cw := Sl.lecap ow.sl
  have z1 : (0 : Int) ≤ ((lo + mn : Nat) : Int) := by omega
  have z2 : ((lo + mn : Nat) : Int) ≤ cw := by omega
  have z3 : (0 : Int) ≤ (lo : Int) := by omega
  have z4 : (lo : Int) ≤ ((lo + mn : Nat) : Int) := by omega
  have hsub := Sl.sub ow.sl (l := lo) (h := lo + mn) (m := cw) (by omega) (by omega) (by omega)
  have hlist : ((d.map (Value.int .u8)).drop (lo * 1)).take ((lo + mn - lo) * 1) = ((d.drop lo).take k.toNat).map (.int .u8) := by
    rw [Nat.mul_one, Nat.mul_one, Nat.add_sub_cancel_left, ← List.map_drop, ← List.map_take]
    congr 1
    apply List.ext_getElem?
    intro i
    rw [List.getElem?_take, List.getElem?_take]
    by_cases hi : i < mn
    · rw [if_pos hi, if_pos (by omega)]
    · rw [if_neg hi]
      by_cases hi2 : i < k.toNat
      · rw [if_pos hi2, List.getElem?_eq_none (by simp; omega)]
      · rw [if_neg hi2]
  rw [hlist] at hsub
  simp only [Nat.mul_one, Nat.add_sub_cancel_left] at hsub
  simp only [go_sem, ↓reduceIte, Nat.reduceEqDiff, Nat.reduceLeDiff, Nat.reduceAdd, Nat.reduceMul, Nat.reduceSub, Nat.reduceBEq, Nat.reduceGT, Nat.reduceLT, Int.reduceLE, Int.reduceLT, Int.reduceNeg, reduceCtorEq, c2, c3, c4, c5, Int.toNat_natCast, gf, gw, ext_refl, cl, w1, e3, w2, z1, z2, z3, z4, Nat.add_sub_cancel_left]
  refine FunI.by (F69 _ _ _ hsub (by rw [List.length_take, List.length_drop]; omega)) ?_
  rintro u H2 ⟨o1, x2⟩
  simp only [go_sem, ↓reduceIte, Nat.reduceEqDiff, Nat.reduceLeDiff, Nat.reduceAdd, Nat.reduceMul, Nat.reduceSub, Nat.reduceBEq, Nat.reduceGT, Nat.reduceLT, Int.reduceLE, Int.reduceLT, Int.reduceNeg, reduceCtorEq]
  exact ⟨u, rfl, o1, x2⟩
end
end Go.Proofs.Ytmkheogjnlmkdaa
