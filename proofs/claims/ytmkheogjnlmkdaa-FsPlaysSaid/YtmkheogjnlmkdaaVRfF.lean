/- The reference: Create, Remove, Rename, SyncDir. -/
import Derived.Test.YtmkheogjnlmkdaaVRfE
set_option linter.unusedSimpArgs false
set_option linter.unusedVariables false
set_option maxRecDepth 20000
namespace Go.V
open Go
structure OkR (r : RSt) : Prop where
  arm : 0 ≤ r.armed ∧ r.armed < 9223372036854775808
  cnt : 0 ≤ r.count ∧ r.count < 4611686018427387904
  dne : 0 < r.dirs.length
  dl : r.dirs.length ≤ 1000000000000
  el : ∀ es ∈ r.dirs, es.length ≤ 1000000000000
  pl : r.pend.length ≤ 1000000000000
  fl : r.files.length ≤ 1000000000000
  ix : ∀ es ∈ r.dirs, ∀ e ∈ es, e.2 < r.files.length
  px : ∀ p ∈ r.pend, p.1 < r.files.length
  dt : ∀ d ∈ r.files, d.2 ≤ d.1.length ∧ d.1.length ≤ 2147483647 ∧ Byt d.1
theorem OkR.nowM {r : RSt} (ok : OkR r) : r.now ∈ r.dirs := by
  have := ok.dne
  unfold RSt.now
  rw [List.getD_eq_getElem?_getD, List.getElem?_eq_getElem (by omega)]
  exact List.getElem_mem _
theorem OkR.nowL {r : RSt} (ok : OkR r) : r.now.length ≤ 1000000000000 := ok.el _ ok.nowM
theorem OkR.look {r : RSt} (ok : OkR r) {i : Nat} {n : Nm} {x : Nat} (hi : r.now[i]? = some (n, x)) : x < r.files.length := ok.ix _ ok.nowM _ (List.mem_of_getElem? hi)
end Go.V
namespace Go.Proofs.Ytmkheogjnlmkdaa
open Go Go.V
-- 87: (*pith/pithref8.FS).now
-- 92: pith/pithref8.at
-- 91: (*pith/pithref8.FS).begins
-- 96: pith/pithref8.named
-- 95: (*pith/pithref8.FS).fails
-- 93: (*pith/pithref8.FS).does
-- 68: (*pith/pithref8.FS).Create
-- 73: (*pith/pithref8.FS).Remove
-- 72: (*pith/pithref8.FS).Rename
-- 74: (*pith/pithref8.FS).SyncDir
-- 125: pithref8.Entry
-- 122: []pithref8.Entry
-- 96: [][]pithref8.Entry
-- 129: pithref8.Data
-- 97: []pithref8.Data
def createR (r : RSt) (n : Nm) : RSt × Int :=
  if beginR r n ≠ 0 then (r, beginR r n) else match lookE r.now n with
    | some _ => (r, 83)
    | none => doesR { r with files := r.files ++ [([], 0)] } r.files.length n
def removeR (r : RSt) (n : Nm) : RSt × Int :=
  if beginR r n ≠ 0 then (r, beginR r n) else match lookE r.now n with
    | none => (r, 82)
    | some x => doesR r x emptyNm
def renameR (r : RSt) (n m : Nm) : RSt × Int :=
  if isNm m = false then (r, 84) else if beginR r n ≠ 0 then (r, beginR r n) else match lookE r.now n with
    | none => (r, 82)
    | some x => doesR r x m
def syncDirR (r : RSt) : RSt × Int :=
  if r.off then (r, 81) else if (failsR r).2 then ((failsR r).1, 81) else ({ (failsR r).1 with dirs := [r.now], pend := [] }, 0)
theorem begin_on {r : RSt} {n : Nm} (h : beginR r n = 0) : r.off = false := by
  unfold beginR beginI at h
  cases ho : r.off with
  | false => rfl
  | true => rw [ho] at h; simp at h; split at h <;> simp at h
section
variable {H H' : Heap} {F F' : Nat → Prop} {b : Nat} {fv dv pv fv' dv' pv' : Value} {P P' : List (Value × Dt)} {Q Q' : List (Value × List En)} {r r0 r' : RSt}
set_option maxHeartbeats 800000 in
theorem F68 (h : RFsP H F b fv dv pv P Q r) (ok : OkR r) (n : Nm) :
    Fun Try.prog 68 #[ptrOf b, .string n] H (fun v H' => v = .int .i64 (createR r n).2 ∧ ∃ F', RFsH H' F' b (createR r n).1 ∧ Ch F F' H H') := by
  refine fun_of mixed (args := [_, _]) Try.func68 Try.ntmps68 b68 r68 rfl ?_
  obtain ⟨g0, g1, g2, g3, g4, g5, g6⟩ := h.get
  simp only [go_sem, ↓reduceIte, Nat.reduceEqDiff, Nat.reduceLeDiff, Nat.reduceAdd, Nat.reduceMul, Nat.reduceSub, Nat.reduceBEq, Nat.reduceGT, Nat.reduceLT, Int.reduceLE, Int.reduceLT, Int.reduceNeg, reduceCtorEq, ptrOf]
  refine FunI.by (F91 (b := b) g4 n) ?_
  rintro _ _ ⟨rfl, rfl⟩
  by_cases c0 : beginR r n = 0
  · simp only [go_sem, ↓reduceIte, Nat.reduceEqDiff, Nat.reduceLeDiff, Nat.reduceAdd, Nat.reduceMul, Nat.reduceSub, Nat.reduceBEq, Nat.reduceGT, Nat.reduceLT, Int.reduceLE, Int.reduceLT, Int.reduceNeg, reduceCtorEq, c0]
    refine FunI.by (F87 h ok.dne (by have := ok.dl; omega)) ?_
    rintro v _ ⟨⟨ov, hvF⟩, rfl⟩
    simp only [go_sem, ↓reduceIte, Nat.reduceEqDiff, Nat.reduceLeDiff, Nat.reduceAdd, Nat.reduceMul, Nat.reduceSub, Nat.reduceBEq, Nat.reduceGT, Nat.reduceLT, Int.reduceLE, Int.reduceLT, Int.reduceNeg, reduceCtorEq]
    refine FunI.by (F92 ov.sl (by have := ok.nowL; omega) n) ?_
    rintro _ _ ⟨⟨k, rfl, hk⟩, rfl⟩
    rcases hk with ⟨i, x, rfl, hi, hlk⟩ | ⟨rfl, hlk⟩
    · have e : createR r n = (r, 83) := by unfold createR; rw [if_neg (by simp [c0]), hlk]
      have c1 : (0 : Int) ≤ i := by omega
      rw [e]
      simp only [go_sem, ↓reduceIte, Nat.reduceEqDiff, Nat.reduceLeDiff, Nat.reduceAdd, Nat.reduceMul, Nat.reduceSub, Nat.reduceBEq, Nat.reduceGT, Nat.reduceLT, Int.reduceLE, Int.reduceLT, Int.reduceNeg, reduceCtorEq, c1]
      exact ⟨F, ⟨_, _, _, _, _, h⟩, Ch.refl _ _⟩
    · have e : createR r n = doesR { r with files := r.files ++ [([], 0)] } r.files.length n := by unfold createR; rw [if_neg (by simp [c0]), hlk]
      rw [e]
      simp only [go_sem, ↓reduceIte, Nat.reduceEqDiff, Nat.reduceLeDiff, Nat.reduceAdd, Nat.reduceMul, Nat.reduceSub, Nat.reduceBEq, Nat.reduceGT, Nat.reduceLT, Int.reduceLE, Int.reduceLT, Int.reduceNeg, reduceCtorEq, g1]
      have hfl := ok.fl
      refine RunI.by (append_lit ty97 ty129 rfl (by decide) h.hF (ys := [_, _]) (m := 1) rfl rfl (n := r.files.length + 1) (by rw [datC_len, h.flen]; simp; omega) (by omega) (by omega) (Nat.zero_le _)) ?_
      rintro fv' H2 ⟨o2, gr, _⟩
      obtain ⟨p1, F2, h2, c2⟩ := h.setF gr.but (by rw [datC_snoc]; exact o2) gr.at'
      have ev := Sl.form o2.sl
      obtain ⟨_, _, _, rfl⟩ := ev
      simp only [go_sem, ↓reduceIte, Nat.reduceEqDiff, Nat.reduceLeDiff, Nat.reduceAdd, Nat.reduceMul, Nat.reduceSub, Nat.reduceBEq, Nat.reduceGT, Nat.reduceLT, Int.reduceLE, Int.reduceLT, Int.reduceNeg, reduceCtorEq, p1]
      refine ⟨rfl, ?_⟩
      generalize hput H2 b 1 [_] = H3 at *
      obtain ⟨a, cap, e4⟩ := h2.fform
      obtain ⟨_, q1, _⟩ := h2.get
      rw [e4] at q1
      have hlen : (r.files ++ [(([], 0) : Dt)]).length = r.files.length + 1 := by simp
      simp only [hlen] at q1
      have w1 : IntKind.i64.wrap (((r.files.length + 1 : Nat) : Int) - 1) = (r.files.length : Int) := by rw [w64_id (by omega) (by omega)]; omega
      simp only [go_sem, ↓reduceIte, Nat.reduceEqDiff, Nat.reduceLeDiff, Nat.reduceAdd, Nat.reduceMul, Nat.reduceSub, Nat.reduceBEq, Nat.reduceGT, Nat.reduceLT, Int.reduceLE, Int.reduceLT, Int.reduceNeg, reduceCtorEq, q1, w1]
      refine FunI.by (F93 h2 (begin_on c0) ok.arm ok.cnt ok.dne ok.dl ok.nowL ok.pl r.files.length n) ?_
      rintro _ H4 ⟨rfl, F4, h4, c4⟩
      simp only [go_sem, ↓reduceIte, Nat.reduceEqDiff, Nat.reduceLeDiff, Nat.reduceAdd, Nat.reduceMul, Nat.reduceSub, Nat.reduceBEq, Nat.reduceGT, Nat.reduceLT, Int.reduceLE, Int.reduceLT, Int.reduceNeg, reduceCtorEq]
      exact ⟨F4, h4, c2.trans c4⟩
  · have e : createR r n = (r, beginR r n) := by unfold createR; rw [if_pos c0]
    rw [e]
    simp only [go_sem, ↓reduceIte, Nat.reduceEqDiff, Nat.reduceLeDiff, Nat.reduceAdd, Nat.reduceMul, Nat.reduceSub, Nat.reduceBEq, Nat.reduceGT, Nat.reduceLT, Int.reduceLE, Int.reduceLT, Int.reduceNeg, reduceCtorEq, c0]
    exact ⟨F, ⟨_, _, _, _, _, h⟩, Ch.refl _ _⟩
set_option maxHeartbeats 800000 in
theorem F73 (h : RFsP H F b fv dv pv P Q r) (ok : OkR r) (n : Nm) :
    Fun Try.prog 73 #[ptrOf b, .string n] H (fun v H' => v = .int .i64 (removeR r n).2 ∧ ∃ F', RFsH H' F' b (removeR r n).1 ∧ Ch F F' H H') := by
  refine fun_of mixed (args := [_, _]) Try.func73 Try.ntmps73 b73 r73 rfl ?_
  obtain ⟨g0, g1, g2, g3, g4, g5, g6⟩ := h.get
  simp only [go_sem, ↓reduceIte, Nat.reduceEqDiff, Nat.reduceLeDiff, Nat.reduceAdd, Nat.reduceMul, Nat.reduceSub, Nat.reduceBEq, Nat.reduceGT, Nat.reduceLT, Int.reduceLE, Int.reduceLT, Int.reduceNeg, reduceCtorEq, ptrOf]
  refine FunI.by (F91 (b := b) g4 n) ?_
  rintro _ _ ⟨rfl, rfl⟩
  by_cases c0 : beginR r n = 0
  · simp only [go_sem, ↓reduceIte, Nat.reduceEqDiff, Nat.reduceLeDiff, Nat.reduceAdd, Nat.reduceMul, Nat.reduceSub, Nat.reduceBEq, Nat.reduceGT, Nat.reduceLT, Int.reduceLE, Int.reduceLT, Int.reduceNeg, reduceCtorEq, c0]
    refine FunI.by (F87 h ok.dne (by have := ok.dl; omega)) ?_
    rintro v _ ⟨⟨ov, hvF⟩, rfl⟩
    simp only [go_sem, ↓reduceIte, Nat.reduceEqDiff, Nat.reduceLeDiff, Nat.reduceAdd, Nat.reduceMul, Nat.reduceSub, Nat.reduceBEq, Nat.reduceGT, Nat.reduceLT, Int.reduceLE, Int.reduceLT, Int.reduceNeg, reduceCtorEq]
    refine FunI.by (F92 ov.sl (by have := ok.nowL; omega) n) ?_
    rintro _ _ ⟨⟨k, rfl, hk⟩, rfl⟩
    rcases hk with ⟨i, x, rfl, hi, hlk⟩ | ⟨rfl, hlk⟩
    · have e : removeR r n = doesR r x emptyNm := by unfold removeR; rw [if_neg (by simp [c0]), hlk]
      have c1 : ¬ (i : Int) < 0 := by omega
      rw [e]
      simp only [go_sem, ↓reduceIte, Nat.reduceEqDiff, Nat.reduceLeDiff, Nat.reduceAdd, Nat.reduceMul, Nat.reduceSub, Nat.reduceBEq, Nat.reduceGT, Nat.reduceLT, Int.reduceLE, Int.reduceLT, Int.reduceNeg, reduceCtorEq, c1]
      refine FunI.by (F87 h ok.dne (by have := ok.dl; omega)) ?_
      rintro v _ ⟨⟨ov, hvF⟩, rfl⟩
      obtain ⟨a, cap, rfl⟩ := ent_form ov.sl
      obtain ⟨g, o, rfl, _, gf⟩ := ent_at ov.sl hi
      have c2 : (0 : Int) ≤ i := by omega
      have c3 : (i : Int) < r.now.length := by have := (List.getElem?_eq_some_iff.1 hi).1; omega
      have c4 : (⟨#[]⟩ : ByteArray) = emptyNm := rfl
      simp only [go_sem, ↓reduceIte, Nat.reduceEqDiff, Nat.reduceLeDiff, Nat.reduceAdd, Nat.reduceMul, Nat.reduceSub, Nat.reduceBEq, Nat.reduceGT, Nat.reduceLT, Int.reduceLE, Int.reduceLT, Int.reduceNeg, reduceCtorEq, c2, c3, Int.toNat_natCast, gf, c4]
      refine FunI.by (F93 h (begin_on c0) ok.arm ok.cnt ok.dne ok.dl ok.nowL ok.pl x emptyNm) ?_
      rintro _ H4 ⟨rfl, F4, h4, c4⟩
      simp only [go_sem, ↓reduceIte, Nat.reduceEqDiff, Nat.reduceLeDiff, Nat.reduceAdd, Nat.reduceMul, Nat.reduceSub, Nat.reduceBEq, Nat.reduceGT, Nat.reduceLT, Int.reduceLE, Int.reduceLT, Int.reduceNeg, reduceCtorEq]
      exact ⟨F4, h4, c4⟩
    · have e : removeR r n = (r, 82) := by unfold removeR; rw [if_neg (by simp [c0]), hlk]
      rw [e]
      simp only [go_sem, ↓reduceIte, Nat.reduceEqDiff, Nat.reduceLeDiff, Nat.reduceAdd, Nat.reduceMul, Nat.reduceSub, Nat.reduceBEq, Nat.reduceGT, Nat.reduceLT, Int.reduceLE, Int.reduceLT, Int.reduceNeg, reduceCtorEq]
      exact ⟨F, ⟨_, _, _, _, _, h⟩, Ch.refl _ _⟩
  · have e : removeR r n = (r, beginR r n) := by unfold removeR; rw [if_pos c0]
    rw [e]
    simp only [go_sem, ↓reduceIte, Nat.reduceEqDiff, Nat.reduceLeDiff, Nat.reduceAdd, Nat.reduceMul, Nat.reduceSub, Nat.reduceBEq, Nat.reduceGT, Nat.reduceLT, Int.reduceLE, Int.reduceLT, Int.reduceNeg, reduceCtorEq, c0]
    exact ⟨F, ⟨_, _, _, _, _, h⟩, Ch.refl _ _⟩
set_option maxHeartbeats 800000 in
theorem F72 (h : RFsP H F b fv dv pv P Q r) (ok : OkR r) (n m : Nm) :
    Fun Try.prog 72 #[ptrOf b, .string n, .string m] H (fun v H' => v = .int .i64 (renameR r n m).2 ∧ ∃ F', RFsH H' F' b (renameR r n m).1 ∧ Ch F F' H H') := by
  refine fun_of mixed (args := [_, _, _]) Try.func72 Try.ntmps72 b72 r72 rfl ?_
  obtain ⟨g0, g1, g2, g3, g4, g5, g6⟩ := h.get
  simp only [go_sem, ↓reduceIte, Nat.reduceEqDiff, Nat.reduceLeDiff, Nat.reduceAdd, Nat.reduceMul, Nat.reduceSub, Nat.reduceBEq, Nat.reduceGT, Nat.reduceLT, Int.reduceLE, Int.reduceLT, Int.reduceNeg, reduceCtorEq, ptrOf]
  refine FunI.by (F96 m H) ?_
  rintro _ _ ⟨rfl, rfl⟩
  simp only [go_sem, ↓reduceIte, Nat.reduceEqDiff, Nat.reduceLeDiff, Nat.reduceAdd, Nat.reduceMul, Nat.reduceSub, Nat.reduceBEq, Nat.reduceGT, Nat.reduceLT, Int.reduceLE, Int.reduceLT, Int.reduceNeg, reduceCtorEq]
  refine FunI.by (F91 (b := b) g4 n) ?_
  rintro _ _ ⟨rfl, rfl⟩
  cases hm : isNm m with
  | false =>
    have e : renameR r n m = (r, 84) := by unfold renameR; rw [if_pos hm]
    rw [e]
    simp only [go_sem, ↓reduceIte, Nat.reduceEqDiff, Nat.reduceLeDiff, Nat.reduceAdd, Nat.reduceMul, Nat.reduceSub, Nat.reduceBEq, Nat.reduceGT, Nat.reduceLT, Int.reduceLE, Int.reduceLT, Int.reduceNeg, reduceCtorEq]
    exact ⟨F, ⟨_, _, _, _, _, h⟩, Ch.refl _ _⟩
  | true =>
  by_cases c0 : beginR r n = 0
  · simp only [go_sem, ↓reduceIte, Nat.reduceEqDiff, Nat.reduceLeDiff, Nat.reduceAdd, Nat.reduceMul, Nat.reduceSub, Nat.reduceBEq, Nat.reduceGT, Nat.reduceLT, Int.reduceLE, Int.reduceLT, Int.reduceNeg, reduceCtorEq, c0]
    refine FunI.by (F87 h ok.dne (by have := ok.dl; omega)) ?_
    rintro v _ ⟨⟨ov, hvF⟩, rfl⟩
    simp only [go_sem, ↓reduceIte, Nat.reduceEqDiff, Nat.reduceLeDiff, Nat.reduceAdd, Nat.reduceMul, Nat.reduceSub, Nat.reduceBEq, Nat.reduceGT, Nat.reduceLT, Int.reduceLE, Int.reduceLT, Int.reduceNeg, reduceCtorEq]
    refine FunI.by (F92 ov.sl (by have := ok.nowL; omega) n) ?_
    rintro _ _ ⟨⟨k, rfl, hk⟩, rfl⟩
    rcases hk with ⟨i, x, rfl, hi, hlk⟩ | ⟨rfl, hlk⟩
    · have e : renameR r n m = doesR r x m := by unfold renameR; rw [if_neg (by simp [hm]), if_neg (by simp [c0]), hlk]
      have c1 : ¬ (i : Int) < 0 := by omega
      rw [e]
      obtain ⟨a, cap, rfl⟩ := ent_form ov.sl
      obtain ⟨g, o, rfl, _, gf⟩ := ent_at ov.sl hi
      have c2 : (0 : Int) ≤ i := by omega
      have c3 : (i : Int) < r.now.length := by have := (List.getElem?_eq_some_iff.1 hi).1; omega
      simp only [go_sem, ↓reduceIte, Nat.reduceEqDiff, Nat.reduceLeDiff, Nat.reduceAdd, Nat.reduceMul, Nat.reduceSub, Nat.reduceBEq, Nat.reduceGT, Nat.reduceLT, Int.reduceLE, Int.reduceLT, Int.reduceNeg, reduceCtorEq, c1, c2, c3, Int.toNat_natCast, gf]
      refine FunI.by (F93 h (begin_on c0) ok.arm ok.cnt ok.dne ok.dl ok.nowL ok.pl x m) ?_
      rintro _ H4 ⟨rfl, F4, h4, c4⟩
      simp only [go_sem, ↓reduceIte, Nat.reduceEqDiff, Nat.reduceLeDiff, Nat.reduceAdd, Nat.reduceMul, Nat.reduceSub, Nat.reduceBEq, Nat.reduceGT, Nat.reduceLT, Int.reduceLE, Int.reduceLT, Int.reduceNeg, reduceCtorEq]
      exact ⟨F4, h4, c4⟩
    · have e : renameR r n m = (r, 82) := by unfold renameR; rw [if_neg (by simp [hm]), if_neg (by simp [c0]), hlk]
      rw [e]
      simp only [go_sem, ↓reduceIte, Nat.reduceEqDiff, Nat.reduceLeDiff, Nat.reduceAdd, Nat.reduceMul, Nat.reduceSub, Nat.reduceBEq, Nat.reduceGT, Nat.reduceLT, Int.reduceLE, Int.reduceLT, Int.reduceNeg, reduceCtorEq]
      exact ⟨F, ⟨_, _, _, _, _, h⟩, Ch.refl _ _⟩
  · have e : renameR r n m = (r, beginR r n) := by unfold renameR; rw [if_neg (by simp [hm]), if_pos c0]
    rw [e]
    simp only [go_sem, ↓reduceIte, Nat.reduceEqDiff, Nat.reduceLeDiff, Nat.reduceAdd, Nat.reduceMul, Nat.reduceSub, Nat.reduceBEq, Nat.reduceGT, Nat.reduceLT, Int.reduceLE, Int.reduceLT, Int.reduceNeg, reduceCtorEq, c0]
    exact ⟨F, ⟨_, _, _, _, _, h⟩, Ch.refl _ _⟩
end
end Go.Proofs.Ytmkheogjnlmkdaa
