/- Publish: its steps. -/
import Derived.Test.YtgigigchjnnonaaGreatDoorVPubP
import Derived.Test.YtgigigchjnnonaaGreatDoorVLoad
set_option linter.unusedSimpArgs false
set_option linter.unusedVariables false
set_option maxRecDepth 20000
namespace Go.Proofs.YtgigigchjnnonaaGreatDoor
open Go Go.V
section
variable {H : Heap} {F : Nat → Prop} {b w c4 c5 c6 c9 c11 cp : Nat} {s : St} {x : WrS} {u v : Value} {p hd : List Int} {t n : Nm}
theorem F87 (h : FsH H F b s) (ok : Ok s) (n : Nm) : Fun Tryz.prog 87 #[ptrOf b, .string n] H (fun r H' => r = .bool (thereS s n) ∧ Ext H H') := by
  obtain ⟨_, _, _, _, _, hP⟩ := h
  refine fun_of mixed (args := [_, _]) Tryz.func87 Tryz.ntmps87 b87 r87 rfl ?_
  simp only [go_sem, ↓reduceIte, Nat.reduceEqDiff, Nat.reduceLeDiff, Nat.reduceAdd, Nat.reduceMul, Nat.reduceSub, Nat.reduceBEq, Nat.reduceGT, Nat.reduceLT, Int.reduceLE, Int.reduceLT, Int.reduceNeg, reduceCtorEq, ptrOf]
  refine FunI.by (F193 hP ok.nowH n) ?_
  rintro _ H1 ⟨rfl, x1⟩
  simp only [go_sem, ↓reduceIte, Nat.reduceEqDiff, Nat.reduceLeDiff, Nat.reduceAdd, Nat.reduceMul, Nat.reduceSub, Nat.reduceBEq, Nat.reduceGT, Nat.reduceLT, Int.reduceLE, Int.reduceLT, Int.reduceNeg, reduceCtorEq]
  exact ⟨rfl, x1⟩
theorem F88 (h : FsH H F b s) (ok : Ok s) (ho : s.ops < 549755813888) (h0 : ¬ F 0) (ht : CrcTab H) (hv : Ints H 5 .u8 u hd) (hb : Byt hd) (hl : hd.length < 4611686018427387904) (hvF : hd = [] ∨ ∀ g, blk u = some g → ¬ F g ∧ g < H.size)
    (k4 : H[c4]? = some (.cells #[ptrOf b] 25)) (k9 : H[c9]? = some (.cells #[.string t] 9)) (k6 : H[c6]? = some (.cells #[u] 53)) (k11 : H[c11]? = some (.cells #[v] 141)) (n11 : ¬ F c11) :
    Fun Tryz.prog 88 #[ptrOf c4, ptrOf c9, ptrOf c6, ptrOf c11] H (fun r H' => ∃ f, f ∉ s.held ∧ r = .int .i64 (beginW s t f hd).2.2 ∧ ∃ F', FsH H' F' b (beginW s t f hd).1 ∧ ChX (· = c11) F F' H H' ∧
      ((beginW s t f hd).2.2 = 0 → ∃ w, H'[c11]? = some (.cells #[ptrOf w] 141) ∧ H.size ≤ w ∧ ¬ F' w ∧ WrH H' w b (beginW s t f hd).2.1)) := by
  obtain ⟨a, cap, rfl⟩ := hv.form
  refine fun_of mixed (args := [_, _, _, _]) Tryz.func88 Tryz.ntmps88 b88 r88 rfl ?_
  have q4 : hget H c4 0 = some (ptrOf b) := hget_cells k4
  have q9 : hget H c9 0 = some (.string t) := hget_cells k9
  have q6 : hget H c6 0 = _ := hget_cells k6
  simp only [ptrOf] at q4
  simp only [go_sem, ↓reduceIte, Nat.reduceEqDiff, Nat.reduceLeDiff, Nat.reduceAdd, Nat.reduceMul, Nat.reduceSub, Nat.reduceBEq, Nat.reduceGT, Nat.reduceLT, Int.reduceLE, Int.reduceLT, Int.reduceNeg, reduceCtorEq, ptrOf, q4, q9, q6]
  refine FunI.by (F89' h ok ho h0 ht hv hb hl hvF) ?_
  rintro _ H1 ⟨f, hf, F1, h1, cx, r1⟩
  have k11' := cx.keep k11 n11 (fun e => e)
  have n11' : ¬ F1 c11 := cx.not (Array.getElem?_eq_some_iff.1 k11).1 n11
  have hlt := (Array.getElem?_eq_some_iff.1 k11).1
  by_cases c : (beginW s t f hd).2.2 = 0
  · rw [if_pos c] at r1
    obtain ⟨w, rfl, hw, hFw, hwr⟩ := r1
    simp only [go_sem, ↓reduceIte, Nat.reduceEqDiff, Nat.reduceLeDiff, Nat.reduceAdd, Nat.reduceMul, Nat.reduceSub, Nat.reduceBEq, Nat.reduceGT, Nat.reduceLT, Int.reduceLE, Int.reduceLT, Int.reduceNeg, reduceCtorEq, ptrOf, c]
    refine ⟨rfl, hcan_of k11' (by simp), f, hf, by rw [c], F1, h1.put n11', (cx.mono (fun _ e => e.elim)).put (.inl rfl), fun _ => ⟨w, by rw [hput_same k11']; rfl, hw, hFw, ?_⟩⟩
    unfold WrH
    rw [hput_other _ _ _ _ (by omega)]
    exact hwr
  · rw [if_neg c] at r1
    subst r1
    simp only [go_sem, ↓reduceIte, Nat.reduceEqDiff, Nat.reduceLeDiff, Nat.reduceAdd, Nat.reduceMul, Nat.reduceSub, Nat.reduceBEq, Nat.reduceGT, Nat.reduceLT, Int.reduceLE, Int.reduceLT, Int.reduceNeg, reduceCtorEq]
    exact ⟨rfl, hcan_of k11' (by simp), f, hf, rfl, F1, h1.put n11', (cx.mono (fun _ e => e.elim)).put (.inl rfl), fun e => absurd e c⟩
theorem F90 (h : FsH H F b s) (ok : Ok s) (ho : s.ops < 1099511627776) (hw : WrH H w b x) (hFw : ¬ F w) (h0 : ¬ F 0) (ht : CrcTab H)
    (hv : Ints H 5 .u8 v p) (hb : Byt p) (hl : p.length < 4611686018427387904) (hvF : p = [] ∨ ∀ g, blk v = some g → ¬ F g ∧ g ≠ w) (hz : 0 ≤ x.size ∧ x.size < 4611686018427387904) (hd : 0 ≤ x.data ∧ x.data < 4611686018427387904)
    (k11 : H[c11]? = some (.cells #[ptrOf w] 141)) (kp : H[cp]? = some (.cells #[v] 53)) :
    Fun Tryz.prog 90 #[ptrOf c11, ptrOf cp] H (fun r H' => r = .int .i64 (putW s x p).2.2 ∧ ∃ F', FsH H' F' b (putW s x p).1 ∧ WrH H' w b (putW s x p).2.1 ∧ ChX (· = w) F F' H H') := by
  obtain ⟨a, cap, rfl⟩ := hv.form
  refine fun_of mixed (args := [_, _]) Tryz.func90 Tryz.ntmps90 b90 r90 rfl ?_
  have q1 : hget H c11 0 = some (ptrOf w) := hget_cells k11
  have q2 : hget H cp 0 = _ := hget_cells kp
  simp only [ptrOf] at q1
  simp only [go_sem, ↓reduceIte, Nat.reduceEqDiff, Nat.reduceLeDiff, Nat.reduceAdd, Nat.reduceMul, Nat.reduceSub, Nat.reduceBEq, Nat.reduceGT, Nat.reduceLT, Int.reduceLE, Int.reduceLT, Int.reduceNeg, reduceCtorEq, ptrOf, q1, q2]
  refine FunI.by (F91 h ok ho hw hFw h0 ht hv hb hl hvF hz hd) ?_
  rintro _ H1 ⟨rfl, hh⟩
  simp only [go_sem, ↓reduceIte, Nat.reduceEqDiff, Nat.reduceLeDiff, Nat.reduceAdd, Nat.reduceMul, Nat.reduceSub, Nat.reduceBEq, Nat.reduceGT, Nat.reduceLT, Int.reduceLE, Int.reduceLT, Int.reduceNeg, reduceCtorEq]
  exact hh
theorem F92 (h : FsH H F b s) (ok : Ok s) (ho : s.ops < 549755813888) (hw : WrH H w b x) (hFw : ¬ F w) (h0 : ¬ F 0) (ht : CrcTab H)
    (hz : 0 ≤ x.size ∧ x.size < 4611686018427387904) (hd : 0 ≤ x.data ∧ x.data < 4294967296) (k11 : H[c11]? = some (.cells #[ptrOf w] 141)) :
    Fun Tryz.prog 92 #[ptrOf c11] H (fun r H' => r = .int .i64 (endW s x true).2.2.2.2 ∧ ∃ F', FsH H' F' b (endW s x true).1 ∧ WrH H' w b (endW s x true).2.1 ∧ ChX (· = w) F F' H H') := by
  refine fun_of mixed (args := [_]) Tryz.func92 Tryz.ntmps92 b92 r92 rfl ?_
  have q1 : hget H c11 0 = some (ptrOf w) := hget_cells k11
  simp only [ptrOf] at q1
  simp only [go_sem, ↓reduceIte, Nat.reduceEqDiff, Nat.reduceLeDiff, Nat.reduceAdd, Nat.reduceMul, Nat.reduceSub, Nat.reduceBEq, Nat.reduceGT, Nat.reduceLT, Int.reduceLE, Int.reduceLT, Int.reduceNeg, reduceCtorEq, ptrOf, q1]
  refine FunI.by (F93 (sy := true) h ok ho hw hFw h0 ht hz hd) ?_
  rintro _ H1 ⟨rfl, hh⟩
  simp only [go_sem, ↓reduceIte, Nat.reduceEqDiff, Nat.reduceLeDiff, Nat.reduceAdd, Nat.reduceMul, Nat.reduceSub, Nat.reduceBEq, Nat.reduceGT, Nat.reduceLT, Int.reduceLE, Int.reduceLT, Int.reduceNeg, reduceCtorEq]
  exact hh
theorem F94 (h : FsH H F b s) (ok : Ok s) (ho : s.ops < 1099511627776) (k4 : H[c4]? = some (.cells #[ptrOf b] 25)) (k9 : H[c9]? = some (.cells #[.string t] 9)) (k5 : H[c5]? = some (.cells #[.string n] 9)) :
    Fun Tryz.prog 94 #[ptrOf c4, ptrOf c9, ptrOf c5] H (fun r H' => r = .int .i64 (renameS s t n).2 ∧ ∃ F', FsH H' F' b (renameS s t n).1 ∧ Ch F F' H H') := by
  refine fun_of mixed (args := [_, _, _]) Tryz.func94 Tryz.ntmps94 b94 r94 rfl ?_
  have q4 : hget H c4 0 = some (ptrOf b) := hget_cells k4
  have q9 : hget H c9 0 = some (.string t) := hget_cells k9
  have q5 : hget H c5 0 = some (.string n) := hget_cells k5
  obtain ⟨_, _, _, _, _, hP⟩ := h
  simp only [ptrOf] at q4
  simp only [go_sem, ↓reduceIte, Nat.reduceEqDiff, Nat.reduceLeDiff, Nat.reduceAdd, Nat.reduceMul, Nat.reduceSub, Nat.reduceBEq, Nat.reduceGT, Nat.reduceLT, Int.reduceLE, Int.reduceLT, Int.reduceNeg, reduceCtorEq, ptrOf, q4, q9, q5]
  refine FunI.by (F95 hP ok ho t n) ?_
  rintro _ H1 ⟨rfl, hh⟩
  simp only [go_sem, ↓reduceIte, Nat.reduceEqDiff, Nat.reduceLeDiff, Nat.reduceAdd, Nat.reduceMul, Nat.reduceSub, Nat.reduceBEq, Nat.reduceGT, Nat.reduceLT, Int.reduceLE, Int.reduceLT, Int.reduceNeg, reduceCtorEq]
  exact hh
end
end Go.Proofs.YtgigigchjnnonaaGreatDoor
