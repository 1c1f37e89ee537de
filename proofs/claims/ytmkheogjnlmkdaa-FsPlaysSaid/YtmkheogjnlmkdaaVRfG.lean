/- The reference: SyncDir, Size. -/
import Derived.Test.YtmkheogjnlmkdaaVRfF
set_option linter.unusedSimpArgs false
set_option linter.unusedVariables false
set_option maxRecDepth 20000
namespace Go.V
open Go
theorem datC_setW {w w' : Value} {d : Dt} {ys : List Int} : ∀ {P : List (Value × Dt)} {x : Nat}, P[x]? = some (w, d) → datC (P.set x (w', (ys, d.2))) = (datC P).set (x * 2) w'
  | [], x, h => by simp at h
  | p :: P, 0, h => by
    simp only [List.getElem?_cons_zero, Option.some.injEq] at h
    subst h
    simp [datC]
  | p :: P, x + 1, h => by
    have := datC_setW (w' := w') (ys := ys) (P := P) (x := x) (by simpa using h)
    have e : (x + 1) * 2 = x * 2 + 1 + 1 := by omega
    rw [e]
    simp only [datC, List.set_cons_succ, List.flatMap_cons, List.cons_append, List.nil_append] at *
    rw [this]
theorem datC_setS {w : Value} {d : Dt} {s : Nat} : ∀ {P : List (Value × Dt)} {x : Nat}, P[x]? = some (w, d) → datC (P.set x (w, (d.1, s))) = (datC P).set (x * 2 + 1) (.int .i64 s)
  | [], x, h => by simp at h
  | p :: P, 0, h => by
    simp only [List.getElem?_cons_zero, Option.some.injEq] at h
    subst h
    simp [datC]
  | p :: P, x + 1, h => by
    have := datC_setS (s := s) (P := P) (x := x) (by simpa using h)
    have e : (x + 1) * 2 + 1 = x * 2 + 1 + 1 + 1 := by omega
    rw [e]
    simp only [datC, List.set_cons_succ, List.flatMap_cons, List.cons_append, List.nil_append] at *
    rw [this]
/-- A store of one cell. -/
theorem Own.cell {H : Heap} {B : Nat} {e : TypeId} {sz g o len cap : Nat} {vs : List Value} (h : Own H B e sz (.slice (some ⟨g, o, none⟩) len cap) vs) {i : Nat} (hi : i < len * sz) (x : Value) :
    o = 0 ∧ hcan H g (o + i) 1 ∧ Own (hput H g (o + i) [x]) B e sz (.slice (some ⟨g, o, none⟩) len cap) (vs.set i x) ∧ But (some g) H (hput H g (o + i) [x]) := by
  rcases h with ⟨h, _⟩ | ⟨g', len', cap', c, he, hB, hg, hlc, hcm, hcs, hl, ht⟩
  · cases h
  · cases he
    have hmul : len * sz ≤ cap * sz := Nat.mul_le_mul_right _ hlc
    simp only [Nat.zero_add] at *
    refine ⟨trivial, ⟨c, e, (0, 0), hg, by omega, by simp⟩, .inr ⟨g, len, cap, _, rfl, hB, hput_same hg, hlc, hcm, ?_, by simpa using hl, ?_⟩, ⟨by rw [hput_size]; exact Nat.le_refl _, fun b _ hne => hput_other _ _ _ _ (fun e => hne (by rw [e]))⟩⟩
    · rw [cput_size (by simp; omega)]; omega
    · subst ht
      apply List.ext_getElem?
      intro k
      rw [List.getElem?_take, List.getElem?_set]
      by_cases hk : k < len * sz
      · rw [if_pos hk, Array.getElem?_toList]
        by_cases hik : i = k
        · subst hik
          rw [if_pos rfl, if_pos (by simp; omega)]
          have := cput_get_in (c := c) (o := i) (vs := [x]) (j := 0) (by simp; omega) (by simp)
          simpa using this
        · rw [if_neg hik, cput_get_out (by simp; omega) (by simp; omega), List.getElem?_take, if_pos hk]
          simp
      · rw [if_neg hk, if_neg (by omega), List.getElem?_take, if_neg hk]
end Go.V
namespace Go.Proofs.Ytmkheogjnlmkdaa
open Go Go.V
-- 87: (*pith/pithref8.FS).now
-- 92: pith/pithref8.at
-- 91: (*pith/pithref8.FS).begins
-- 96: pith/pithref8.named
-- 95: (*pith/pithref8.FS).fails
-- 74: (*pith/pithref8.FS).SyncDir
-- 76: (*pith/pithref8.FS).Size
-- 100: pithref8.FS
-- 5: uint8
-- 125: pithref8.Entry
-- 122: []pithref8.Entry
-- 96: [][]pithref8.Entry
-- 129: pithref8.Data
-- 97: []pithref8.Data
-- 139: pithref8.Done
def fileR (r : RSt) (x : Nat) : Dt := r.files.getD x ([], 0)
def sizeR (r : RSt) (n : Nm) : Int × Int :=
  if beginR r n ≠ 0 then (0, beginR r n) else match lookE r.now n with
    | none => (0, 82)
    | some x => ((fileR r x).1.length, 0)
section
variable {H H' : Heap} {F F' : Nat → Prop} {b : Nat} {fv dv pv fv' dv' pv' : Value} {P P' : List (Value × Dt)} {Q Q' : List (Value × List En)} {r r0 r' : RSt}
/-- The x-th file. -/
theorem RFsP.fget (h : RFsP H F b fv dv pv P Q r) {x : Nat} (hx : x < r.files.length) : ∃ g o cap w, fv = .slice (some ⟨g, o, none⟩) r.files.length cap ∧ hget H g (o + x * 2) = some w ∧ hget H g (o + x * 2 + 1) = some (.int .i64 (fileR r x).2) ∧
    P[x]? = some (w, fileR r x) ∧ Own H 0 5 1 w ((fileR r x).1.map (.int .u8)) ∧ ∀ g, blk w = some g → F g := by
  obtain ⟨a, cap, e⟩ := h.fform
  have h1 := h.hF.sl
  rw [e] at h1
  obtain ⟨g, o, rfl⟩ := Sl.at h1 (by omega)
  obtain ⟨p, hp⟩ : ∃ q, P[x]? = some q := ⟨_, List.getElem?_eq_getElem (by rw [h.flen]; omega)⟩
  have hm := h.hw p (List.mem_of_getElem? hp)
  have e2 : fileR r x = p.2 := by unfold fileR; rw [← h.eP, List.getD_eq_getElem?_getD, List.getElem?_map, hp]; rfl
  have gg : ∀ j, j < 2 → hget H g (o + x * 2 + j) = ([p.1, Value.int .i64 p.2.2] : List Value)[j]? := fun j hj => by
    rw [Nat.add_assoc, Sl.get h1 (i := x * 2 + j) (by omega)]
    exact fl_get (f := fun p : Value × Dt => [p.1, Value.int .i64 p.2.2]) (fun _ => rfl) P x j p hp hj
  rw [e2]
  exact ⟨g, o, cap, p.1, e, gg 0 (by omega), gg 1 (by omega), hp, hm⟩
set_option maxHeartbeats 800000 in
theorem F74 (h : RFsP H F b fv dv pv P Q r) (ok : OkR r) :
    Fun Try.prog 74 #[ptrOf b] H (fun v H' => v = .int .i64 (syncDirR r).2 ∧ ∃ F', RFsH H' F' b (syncDirR r).1 ∧ Ch F F' H H') := by
  refine fun_of mixed (args := [_]) Try.func74 Try.ntmps74 b74 r74 rfl ?_
  obtain ⟨g0, g1, g2, g3, g4, g5, g6⟩ := h.get
  cases ho : r.off with
  | true =>
    have e : syncDirR r = (r, 81) := by unfold syncDirR; rw [ho]; rfl
    rw [e]
    rw [ho] at g4
    simp only [go_sem, ↓reduceIte, Nat.reduceEqDiff, Nat.reduceLeDiff, Nat.reduceAdd, Nat.reduceMul, Nat.reduceSub, Nat.reduceBEq, Nat.reduceGT, Nat.reduceLT, Int.reduceLE, Int.reduceLT, Int.reduceNeg, reduceCtorEq, ptrOf, g4]
    exact ⟨F, ⟨_, _, _, _, _, h⟩, Ch.refl _ _⟩
  | false =>
    rw [ho] at g4
    simp only [go_sem, ↓reduceIte, Nat.reduceEqDiff, Nat.reduceLeDiff, Nat.reduceAdd, Nat.reduceMul, Nat.reduceSub, Nat.reduceBEq, Nat.reduceGT, Nat.reduceLT, Int.reduceLE, Int.reduceLT, Int.reduceNeg, reduceCtorEq, ptrOf, g4]
    refine FunI.by (F95 h ho ok.arm ok.cnt) ?_
    rintro _ H1 ⟨rfl, h1, c1⟩
    cases hf : (failsR r).2 with
    | true =>
      have e : syncDirR r = ((failsR r).1, 81) := by unfold syncDirR; rw [ho, hf]; rfl
      rw [e]
      simp only [go_sem, ↓reduceIte, Nat.reduceEqDiff, Nat.reduceLeDiff, Nat.reduceAdd, Nat.reduceMul, Nat.reduceSub, Nat.reduceBEq, Nat.reduceGT, Nat.reduceLT, Int.reduceLE, Int.reduceLT, Int.reduceNeg, reduceCtorEq]
      exact ⟨F, ⟨_, _, _, _, _, h1⟩, c1⟩
    | false =>
      have e : syncDirR r = ({ (failsR r).1 with dirs := [r.now], pend := [] }, 0) := by unfold syncDirR; rw [ho, hf]; rfl
      have ed : (failsR r).1.dirs = r.dirs := by unfold failsR; split <;> rfl
      have en : (failsR r).1.now = r.now := by unfold RSt.now; rw [ed]
      rw [e]
      simp only [go_sem, ↓reduceIte, Nat.reduceEqDiff, Nat.reduceLeDiff, Nat.reduceAdd, Nat.reduceMul, Nat.reduceSub, Nat.reduceBEq, Nat.reduceGT, Nat.reduceLT, Int.reduceLE, Int.reduceLT, Int.reduceNeg, reduceCtorEq]
      refine FunI.by (F87 h1 (by rw [ed]; exact ok.dne) (by rw [ed]; have := ok.dl; omega)) ?_
      rintro v _ ⟨⟨ov, hvF⟩, rfl⟩
      rw [en] at ov
      have ev := Sl.form ov.sl
      obtain ⟨va, vl, vc, rfl⟩ := ev
      simp only [go_sem, ↓reduceIte, Nat.reduceEqDiff, Nat.reduceLeDiff, Nat.reduceAdd, Nat.reduceMul, Nat.reduceSub, Nat.reduceBEq, Nat.reduceGT, Nat.reduceLT, Int.reduceLE, Int.reduceLT, Int.reduceNeg, reduceCtorEq]
      obtain ⟨h2, c2⟩ := h1.grow (Ext.push (.cells #[Value.slice va vl vc] 122))
      have od : Own (H1.push (.cells #[Value.slice va vl vc] 122)) 0 122 1 (.slice (some ⟨H1.size, 0, none⟩) 1 1) [Value.slice va vl vc] := .inr ⟨H1.size, 1, 1, _, rfl, Nat.zero_le _, push_new, Nat.le_refl _, by decide, rfl, rfl, rfl⟩
      obtain ⟨p3, h3⟩ := RFsP.field (r := { (failsR r).1 with dirs := [r.now] }) (Q := [(Value.slice va vl vc, r.now)]) h2.hM h2.eP rfl h2.hF h2.hw h2.ap od (fun q hq => by
        simp only [List.mem_singleton] at hq
        subst hq
        exact ⟨ov.ext (Ext.push _), fun g hg => .inl (hvF g hg)⟩) h2.hP h2.fb h2.ff (fun g hg => by cases hg; exact .inr ⟨Nat.le_refl _, by simp⟩) h2.fp h2.lt 2 _ (by omega) rfl
      obtain ⟨p4, h4⟩ := RFsP.field (r := { (failsR r).1 with dirs := [r.now], pend := [] }) (pv := .slice none 0 0) h3.hM h3.eP h3.eQ h3.hF h3.hw h3.ap h3.hD h3.hv Own.nil h3.fb h3.ff h3.fd (fun g hg => by cases hg) h3.lt 3 _ (by omega) rfl
      simp only [go_sem, ↓reduceIte, Nat.reduceEqDiff, Nat.reduceLeDiff, Nat.reduceAdd, Nat.reduceMul, Nat.reduceSub, Nat.reduceBEq, Nat.reduceGT, Nat.reduceLT, Int.reduceLE, Int.reduceLT, Int.reduceNeg, reduceCtorEq, p3, p4]
      refine ⟨rfl, rfl, _, ⟨_, _, _, _, _, h4⟩, c1.trans (c2.trans ⟨by simp [hput_size], fun g hg => .inl hg, fun g hg hn => ?_⟩)⟩
      have hgb : g ≠ b := fun e => hn (by rw [e]; exact h2.fb)
      rw [hput_other _ _ _ _ hgb, hput_other _ _ _ _ hgb]
set_option maxHeartbeats 800000 in
theorem F76 (h : RFsP H F b fv dv pv P Q r) (ok : OkR r) (n : Nm) :
    Fun Try.prog 76 #[ptrOf b, .string n] H (fun v H' => v = .tuple #[.int .i64 (sizeR r n).1, .int .i64 (sizeR r n).2] ∧ H = H') := by
  refine fun_of mixed (args := [_, _]) Try.func76 Try.ntmps76 b76 r76 rfl ?_
  obtain ⟨g0, g1, g2, g3, g4, g5, g6⟩ := h.get
  simp only [go_sem, ↓reduceIte, Nat.reduceEqDiff, Nat.reduceLeDiff, Nat.reduceAdd, Nat.reduceMul, Nat.reduceSub, Nat.reduceBEq, Nat.reduceGT, Nat.reduceLT, Int.reduceLE, Int.reduceLT, Int.reduceNeg, reduceCtorEq, ptrOf]
  refine FunI.by (F91 (b := b) g4 n) ?_
  rintro _ _ ⟨rfl, rfl⟩
  by_cases c0 : beginR r n = 0
  · simp only [go_sem, ↓reduceIte, Nat.reduceEqDiff, Nat.reduceLeDiff, Nat.reduceAdd, Nat.reduceMul, Nat.reduceSub, Nat.reduceBEq, Nat.reduceGT, Nat.reduceLT, Int.reduceLE, Int.reduceLT, Int.reduceNeg, reduceCtorEq, c0]
    refine FunI.by (F87 h ok.dne (by have := ok.dl; omega)) ?_
    rintro v _ ⟨⟨ov, hvF⟩, rfl⟩
    simp only [go_sem, ↓reduceIte, Nat.reduceEqDiff, Nat.reduceLeDiff, Nat.reduceAdd, Nat.reduceMul, Nat.reduceSub, Nat.reduceBEq, Nat.reduceGT, Nat.reduceLT, Int.reduceLE, Int.reduceLT, Int.reduceNeg, reduceCtorEq]
    refine FunI.by (F92 ov.sl (by have := ok.nowL; omega) n) ?_
    rintro _ _ ⟨⟨k, rfl, hk⟩, rfl⟩
    rcases hk with ⟨i, x, rfl, hi, hlk⟩ | ⟨rfl, hlk⟩
    · have e : sizeR r n = (((fileR r x).1.length : Int), 0) := by unfold sizeR; rw [if_neg (by simp [c0]), hlk]
      have c1 : ¬ (i : Int) < 0 := by omega
      rw [e]
      obtain ⟨gF, oF, capF, w, rfl, gw, gs, hP, ow, owF⟩ := h.fget (ok.look hi)
      simp only [go_sem, ↓reduceIte, Nat.reduceEqDiff, Nat.reduceLeDiff, Nat.reduceAdd, Nat.reduceMul, Nat.reduceSub, Nat.reduceBEq, Nat.reduceGT, Nat.reduceLT, Int.reduceLE, Int.reduceLT, Int.reduceNeg, reduceCtorEq, c1, g1, ext_refl]
      refine FunI.by (F87 h ok.dne (by have := ok.dl; omega)) ?_
      rintro v _ ⟨⟨ov, hvF⟩, rfl⟩
      obtain ⟨a, cap, rfl⟩ := ent_form ov.sl
      obtain ⟨g, o, rfl, _, gf⟩ := ent_at ov.sl hi
      have c2 : (0 : Int) ≤ i := by omega
      have c3 : (i : Int) < r.now.length := by have := (List.getElem?_eq_some_iff.1 hi).1; omega
      have c4 : (0 : Int) ≤ x := by omega
      have c5 : (x : Int) < r.files.length := by have := ok.look hi; omega
      obtain ⟨aw, cw, rfl⟩ := Ints.form (show Ints H 5 .u8 w _ from ow.sl)
      simp only [go_sem, ↓reduceIte, Nat.reduceEqDiff, Nat.reduceLeDiff, Nat.reduceAdd, Nat.reduceMul, Nat.reduceSub, Nat.reduceBEq, Nat.reduceGT, Nat.reduceLT, Int.reduceLE, Int.reduceLT, Int.reduceNeg, reduceCtorEq, c2, c3, c4, c5, Int.toNat_natCast, gf, gw, ext_refl]
    · have e : sizeR r n = (0, 82) := by unfold sizeR; rw [if_neg (by simp [c0]), hlk]
      rw [e]
      simp only [go_sem, ↓reduceIte, Nat.reduceEqDiff, Nat.reduceLeDiff, Nat.reduceAdd, Nat.reduceMul, Nat.reduceSub, Nat.reduceBEq, Nat.reduceGT, Nat.reduceLT, Int.reduceLE, Int.reduceLT, Int.reduceNeg, reduceCtorEq]
  · have e : sizeR r n = (0, beginR r n) := by unfold sizeR; rw [if_pos c0]
    rw [e]
    simp only [go_sem, ↓reduceIte, Nat.reduceEqDiff, Nat.reduceLeDiff, Nat.reduceAdd, Nat.reduceMul, Nat.reduceSub, Nat.reduceBEq, Nat.reduceGT, Nat.reduceLT, Int.reduceLE, Int.reduceLT, Int.reduceNeg, reduceCtorEq, c0]
end
end Go.Proofs.Ytmkheogjnlmkdaa
