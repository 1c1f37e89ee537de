/- Writers of files: Begin, Put, End. -/
import Derived.Test.YtgigigchjnnonaaGreatDoorVWr
import Derived.Test.YtgigigchjnnonaaGreatDoorVFsO
set_option linter.unusedSimpArgs false
set_option linter.unusedVariables false
set_option maxRecDepth 20000
namespace Go.Proofs.YtgigigchjnnonaaGreatDoor
open Go Go.V
def putW (s : St) (x : WrS) (p : List Int) : St × WrS × Int :=
  if x.over then (s, x, 91) else if (putS s x 2 p).2.2 = 0 then ((putS s x 2 p).1, { (putS s x 2 p).2.1 with data := (putS s x 2 p).2.1.data + 1 }, 0) else putS s x 2 p
def newW (n : Nm) : WrS := { name := n, size := 0, sum := 0#32, data := 0, over := false }
def beginW (s : St) (n : Nm) (f : Nat) (p : List Int) : St × WrS × Int :=
  if 1024 < p.length then (s, newW n, 31) else if (createS s n f).2 ≠ 0 then ((createS s n f).1, newW n, (createS s n f).2) else putS (createS s n f).1 (newW n) 1 p
def endW (s : St) (x : WrS) (sync : Bool) : St × WrS × Int × W32 × Int :=
  if x.over then (s, x, 0, 0#32, 91) else
  let q := putS s x 3 (be4 x.data)
  let t := if q.2.2 = 0 ∧ sync = true then syncS q.1 x.name else (q.1, q.2.2)
  (t.1, { q.2.1 with over := true }, if t.2 ≠ 0 then (0, 0#32, t.2) else (q.2.1.size, q.2.1.sum, 0))
theorem putS_data (s : St) (x : WrS) (k : Int) (p : List Int) : (putS s x k p).2.1.data = x.data ∧ (putS s x k p).2.1.name = x.name := by
  unfold putS
  split
  · exact ⟨rfl, rfl⟩
  · split
    · exact ⟨rfl, rfl⟩
    · exact ⟨rfl, rfl⟩
theorem append_ops (s : St) (n : Nm) (b : List Int) : (appendS s n b).1.ops ≤ s.ops + 1 := by
  unfold appendS
  split
  · split
    · simp only; omega
    · unfold countS; split
      · split <;> simp
      · simp
  · simp only; omega
theorem create_ops (s : St) (n : Nm) (f : Nat) : (createS s n f).1.ops ≤ s.ops + 1 := by
  unfold createS
  split
  · simp only; omega
  · split
    · simp only; omega
    · unfold pendS countS addS; split
      · split <;> simp
      · simp
theorem putS_ops (s : St) (x : WrS) (k : Int) (p : List Int) : (putS s x k p).1.ops ≤ s.ops + 1 := by
  unfold putS
  split
  · simp only; omega
  · split <;> exact append_ops _ _ _
theorem encL_byt {k : Int} {p : List Int} (hp : Byt p) : Byt (encL k p) := by
  intro x hx
  unfold encL headL headB at hx
  simp only [List.mem_append] at hx
  rcases hx with ((hx | hx) | hx) | hx
  · simp at hx; omega
  · exact be4_byt _ x hx
  · exact hp x hx
  · exact be4_byt _ x hx
theorem putS_ok {s : St} (ok : Ok s) (x : WrS) (k : Int) {p : List Int} (hp : Byt p) : Ok (putS s x k p).1 := by
  unfold putS
  split
  · exact ok
  · split <;> exact append_ok ok _ (encL_byt hp)
section
variable {H : Heap} {F : Nat → Prop} {b w : Nat} {s : St} {x : WrS} {v : Value} {p : List Int}
set_option maxHeartbeats 800000 in
theorem F91 (h : FsH H F b s) (ok : Ok s) (ho : s.ops < 1099511627776) (hw : WrH H w b x) (hFw : ¬ F w) (h0 : ¬ F 0) (ht : CrcTab H)
    (hv : Ints H 5 .u8 v p) (hb : Byt p) (hl : p.length < 4611686018427387904) (hvF : p = [] ∨ ∀ g, blk v = some g → ¬ F g ∧ g ≠ w) (hz : 0 ≤ x.size ∧ x.size < 4611686018427387904) (hd : 0 ≤ x.data ∧ x.data < 4611686018427387904) :
    Fun Tryz.prog 91 #[ptrOf w, v] H (fun r H' => r = .int .i64 (putW s x p).2.2 ∧ ∃ F', FsH H' F' b (putW s x p).1 ∧ WrH H' w b (putW s x p).2.1 ∧ ChX (· = w) F F' H H') := by
  obtain ⟨a, cap, rfl⟩ := hv.form
  refine fun_of mixed (args := [_, _]) Tryz.func91 Tryz.ntmps91 b91 r91 rfl ?_
  obtain ⟨g0, g1, g2, g3, g4, g5⟩ := hw.get
  by_cases c0 : x.over = true
  · have hp : putW s x p = (s, x, 91) := by unfold putW; rw [if_pos c0]
    rw [c0] at g5
    simp only [go_sem, ↓reduceIte, Nat.reduceEqDiff, Nat.reduceLeDiff, Nat.reduceAdd, Nat.reduceMul, Nat.reduceSub, Nat.reduceBEq, Nat.reduceGT, Nat.reduceLT, Int.reduceLE, Int.reduceLT, Int.reduceNeg, reduceCtorEq, ptrOf, g5, hp]
    exact ⟨F, h, hw, ChX.refl _ _ _⟩
  have c0' : x.over = false := by simpa using c0
  rw [c0'] at g5
  simp only [go_sem, ↓reduceIte, Nat.reduceEqDiff, Nat.reduceLeDiff, Nat.reduceAdd, Nat.reduceMul, Nat.reduceSub, Nat.reduceBEq, Nat.reduceGT, Nat.reduceLT, Int.reduceLE, Int.reduceLT, Int.reduceNeg, reduceCtorEq, ptrOf, g5]
  refine FunI.by (F203 (k := 2) h ok ho hw hFw h0 ht hv hb hl hvF hz) ?_
  rintro _ H1 ⟨rfl, F', h1, hw1, cx⟩
  have hF' : ¬ F' w := cx.not (Array.getElem?_eq_some_iff.1 hw).1 hFw
  by_cases c1 : (putS s x 2 p).2.2 = 0
  · have hp : putW s x p = ((putS s x 2 p).1, { (putS s x 2 p).2.1 with data := (putS s x 2 p).2.1.data + 1 }, 0) := by unfold putW; rw [if_neg c0, if_pos c1]
    obtain ⟨g0, g1, g2, g3, g4, g5⟩ := hw1.get
    have e1 : IntKind.i64.wrap ((putS s x 2 p).2.1.data + 1) = (putS s x 2 p).2.1.data + 1 := by have := (putS_data s x 2 p).1; exact w64_id (by omega) (by omega)
    simp only [go_sem, ↓reduceIte, Nat.reduceEqDiff, Nat.reduceLeDiff, Nat.reduceAdd, Nat.reduceMul, Nat.reduceSub, Nat.reduceBEq, Nat.reduceGT, Nat.reduceLT, Int.reduceLE, Int.reduceLT, Int.reduceNeg, reduceCtorEq, c1, g4, e1]
    refine ⟨rfl, hcan_of hw1 (by simp [wrC]), ?_⟩
    rw [hp]
    refine ⟨rfl, F', h1.put hF', ?_, cx.put (.inl rfl)⟩
    unfold WrH
    rw [hput_same hw1]; rfl
  have hp : putW s x p = putS s x 2 p := by unfold putW; rw [if_neg c0, if_neg c1]
  simp only [go_sem, ↓reduceIte, Nat.reduceEqDiff, Nat.reduceLeDiff, Nat.reduceAdd, Nat.reduceMul, Nat.reduceSub, Nat.reduceBEq, Nat.reduceGT, Nat.reduceLT, Int.reduceLE, Int.reduceLT, Int.reduceNeg, reduceCtorEq, c1]
  rw [hp]
  exact ⟨rfl, F', h1, hw1, cx⟩
set_option maxHeartbeats 1600000 in
theorem F89' {n : Nm} (h : FsH H F b s) (ok : Ok s) (ho : s.ops < 549755813888) (h0 : ¬ F 0) (ht : CrcTab H)
    (hv : Ints H 5 .u8 v p) (hb : Byt p) (hl : p.length < 4611686018427387904) (hvF : p = [] ∨ ∀ g, blk v = some g → ¬ F g ∧ g < H.size) :
    Fun Tryz.prog 89 #[ptrOf b, .string n, v] H (fun r H' => ∃ f, f ∉ s.held ∧ ∃ F', FsH H' F' b (beginW s n f p).1 ∧ ChX (fun _ => False) F F' H H' ∧
      (if (beginW s n f p).2.2 = 0 then ∃ w, r = .tuple #[ptrOf w, .int .i64 0] ∧ H.size ≤ w ∧ ¬ F' w ∧ WrH H' w b (beginW s n f p).2.1 else r = .tuple #[.pointer none, .int .i64 (beginW s n f p).2.2])) := by
  obtain ⟨a, cap, rfl⟩ := hv.form
  refine fun_of mixed (args := [_, _, _]) Tryz.func89 Tryz.ntmps89 b89 r89 rfl ?_
  by_cases c0 : 1024 < p.length
  · have c0' : (1024 : Int) < p.length := by omega
    obtain ⟨f, hf⟩ : ∃ f, f ∉ s.held := by
      obtain ⟨_, _, _, _, _, hP⟩ := h
      exact ⟨H.size, fun hm => by have := hP.lt _ (hP.hf _ hm).1; omega⟩
    have hp : beginW s n f p = (s, newW n, 31) := by unfold beginW; rw [if_pos c0]
    simp only [go_sem, ↓reduceIte, Nat.reduceEqDiff, Nat.reduceLeDiff, Nat.reduceAdd, Nat.reduceMul, Nat.reduceSub, Nat.reduceBEq, Nat.reduceGT, Nat.reduceLT, Int.reduceLE, Int.reduceLT, Int.reduceNeg, reduceCtorEq, c0']
    refine ⟨f, hf, F, by rw [hp]; exact h, ChX.refl _ _ _, ?_⟩
    rw [hp, if_neg (show ¬ ((31 : Int) = 0) by decide)]
  have c0' : ¬ (1024 : Int) < p.length := by omega
  obtain ⟨mb, lb, hb', pv, dv, hP⟩ := h
  simp only [go_sem, ↓reduceIte, Nat.reduceEqDiff, Nat.reduceLeDiff, Nat.reduceAdd, Nat.reduceMul, Nat.reduceSub, Nat.reduceBEq, Nat.reduceGT, Nat.reduceLT, Int.reduceLE, Int.reduceLT, Int.reduceNeg, reduceCtorEq, c0', ptrOf]
  refine FunI.by (F202 hP ok (by omega) n) ?_
  rintro _ H1 ⟨f, hf, rfl, F1, h1, ch1⟩
  by_cases c1 : (createS s n f).2 ≠ 0
  · have hp : beginW s n f p = ((createS s n f).1, newW n, (createS s n f).2) := by unfold beginW; rw [if_neg c0, if_pos c1]
    simp only [go_sem, ↓reduceIte, Nat.reduceEqDiff, Nat.reduceLeDiff, Nat.reduceAdd, Nat.reduceMul, Nat.reduceSub, Nat.reduceBEq, Nat.reduceGT, Nat.reduceLT, Int.reduceLE, Int.reduceLT, Int.reduceNeg, reduceCtorEq, c1]
    refine ⟨f, hf, F1, by rw [hp]; exact h1, ch1.chx, ?_⟩
    rw [hp, if_neg c1]
  have c1' := Classical.not_not.1 c1
  simp only [go_sem, ↓reduceIte, Nat.reduceEqDiff, Nat.reduceLeDiff, Nat.reduceAdd, Nat.reduceMul, Nat.reduceSub, Nat.reduceBEq, Nat.reduceGT, Nat.reduceLT, Int.reduceLE, Int.reduceLT, Int.reduceNeg, reduceCtorEq, c1']
  have hp : beginW s n f p = putS (createS s n f).1 (newW n) 1 p := by unfold beginW; rw [if_neg c0, if_neg (not_not_intro c1')]
  have x2 : Ext H1 (H1.push (.cells #[.pointer (some ⟨b, 0, none⟩), .string n, .int .i64 0, .int .u32 0, .int .i64 0, .bool false] 205)) := Ext.push _
  have hw2 : WrH (H1.push (.cells #[.pointer (some ⟨b, 0, none⟩), .string n, .int .i64 0, .int .u32 0, .int .i64 0, .bool false] 205)) H1.size b (newW n) := by
    unfold WrH
    rw [push_new]
    rfl
  have nF : ¬ F1 H1.size := fun e => by
    obtain ⟨_, _, _, _, _, hP1⟩ := h1
    have := hP1.lt _ e
    omega
  have c2 : ChX (fun _ => False) F F1 H H1 := ch1.chx
  have hlt : 0 < H.size := by obtain ⟨t, fr, ht⟩ := ht; exact (Array.getElem?_eq_some_iff.1 ht).1
  have n0 : ¬ F1 0 := c2.not hlt h0
  have ht2 := (c2.crc ht h0 (fun e => e)).ext x2
  have hv2 := (c2.ints hv (hvF.imp id fun hvF g hg => ⟨(hvF g hg).1, fun e => e⟩)).ext x2
  have hv9 : p = [] ∨ ∀ g, blk (.slice a p.length cap) = some g → ¬ F1 g ∧ g ≠ H1.size := hvF.imp id fun hvF g hg => ⟨c2.not (hvF g hg).2 (hvF g hg).1, by have := (hvF g hg).2; have := c2.size; omega⟩
  have h2 := h1.ext x2
  have cx2 : ChX (· = H1.size) F F1 H (H1.push (.cells #[.pointer (some ⟨b, 0, none⟩), .string n, .int .i64 0, .int .u32 0, .int .i64 0, .bool false] 205)) := (c2.mono fun _ e => e.elim).trans x2.chx
  generalize H1.push (.cells #[.pointer (some ⟨b, 0, none⟩), .string n, .int .i64 0, .int .u32 0, .int .i64 0, .bool false] 205) = H2 at *
  refine FunI.by (F203 (k := 1) h2 (create_ok ok n hf) (by have := create_ops s n f; omega) hw2 nF n0 ht2 hv2 hb hl hv9 (by simp [newW])) ?_
  rintro _ H3 ⟨rfl, F', h3, hw3, cx3⟩
  have cx : ChX (fun _ => False) F F' H H3 := by
    have := cx2.trans cx3
    exact ⟨this.size, this.old, fun g hg hn _ => this.get g hg hn (by have := c2.size; omega)⟩
  have nF' : ¬ F' H1.size := cx3.not (Array.getElem?_eq_some_iff.1 hw2).1 nF
  by_cases c3 : (putS (createS s n f).1 (newW n) 1 p).2.2 = 0
  · simp only [go_sem, ↓reduceIte, Nat.reduceEqDiff, Nat.reduceLeDiff, Nat.reduceAdd, Nat.reduceMul, Nat.reduceSub, Nat.reduceBEq, Nat.reduceGT, Nat.reduceLT, Int.reduceLE, Int.reduceLT, Int.reduceNeg, reduceCtorEq, c3]
    refine ⟨f, hf, F', by rw [hp]; exact h3, cx, ?_⟩
    rw [hp, if_pos c3]
    exact ⟨H1.size, rfl, c2.size, nF', hw3⟩
  simp only [go_sem, ↓reduceIte, Nat.reduceEqDiff, Nat.reduceLeDiff, Nat.reduceAdd, Nat.reduceMul, Nat.reduceSub, Nat.reduceBEq, Nat.reduceGT, Nat.reduceLT, Int.reduceLE, Int.reduceLT, Int.reduceNeg, reduceCtorEq, c3]
  refine ⟨f, hf, F', by rw [hp]; exact h3, cx, ?_⟩
  rw [hp, if_neg c3]
set_option maxHeartbeats 1600000 in
theorem F93 {sy : Bool} (h : FsH H F b s) (ok : Ok s) (ho : s.ops < 549755813888) (hw : WrH H w b x) (hFw : ¬ F w) (h0 : ¬ F 0) (ht : CrcTab H)
    (hz : 0 ≤ x.size ∧ x.size < 4611686018427387904) (hd : 0 ≤ x.data ∧ x.data < 4294967296) :
    Fun Tryz.prog 93 #[ptrOf w, .bool sy] H (fun r H' => r = .tuple #[.int .i64 (endW s x sy).2.2.1, .int .u32 (wI (endW s x sy).2.2.2.1), .int .i64 (endW s x sy).2.2.2.2] ∧ ∃ F', FsH H' F' b (endW s x sy).1 ∧ WrH H' w b (endW s x sy).2.1 ∧ ChX (· = w) F F' H H') := by
  refine fun_of mixed (args := [_, _]) Tryz.func93 Tryz.ntmps93 b93 r93 rfl ?_
  obtain ⟨g0, g1, g2, g3, g4, g5⟩ := hw.get
  have hwlt := (Array.getElem?_eq_some_iff.1 hw).1
  by_cases c0 : x.over = true
  · have hp : endW s x sy = (s, x, 0, 0#32, 91) := by unfold endW; rw [if_pos c0]
    rw [c0] at g5
    simp only [go_sem, ↓reduceIte, Nat.reduceEqDiff, Nat.reduceLeDiff, Nat.reduceAdd, Nat.reduceMul, Nat.reduceSub, Nat.reduceBEq, Nat.reduceGT, Nat.reduceLT, Int.reduceLE, Int.reduceLT, Int.reduceNeg, reduceCtorEq, ptrOf, g5, hp]
    exact ⟨rfl, F, h, hw, ChX.refl _ _ _⟩
  have c0' : x.over = false := by simpa using c0
  rw [c0'] at g5
  simp only [go_sem, ↓reduceIte, Nat.reduceEqDiff, Nat.reduceLeDiff, Nat.reduceAdd, Nat.reduceMul, Nat.reduceSub, Nat.reduceBEq, Nat.reduceGT, Nat.reduceLT, Int.reduceLE, Int.reduceLT, Int.reduceNeg, reduceCtorEq, ptrOf, g5, g4]
  refine FunI.by (F204 x.data H hd) ?_
  rintro u H1 ⟨ou, x1⟩
  have hw1 : WrH H1 w b x := x1.old hw
  simp only [go_sem, ↓reduceIte, Nat.reduceEqDiff, Nat.reduceLeDiff, Nat.reduceAdd, Nat.reduceMul, Nat.reduceSub, Nat.reduceBEq, Nat.reduceGT, Nat.reduceLT, Int.reduceLE, Int.reduceLT, Int.reduceNeg, reduceCtorEq]
  refine FunI.by (F203 (k := 3) (h.ext x1) ok (by omega) hw1 hFw h0 (ht.ext x1) ou.sl (be4_byt _) (by simp [be4]) (.inr fun g hg => ?_) hz) ?_
  · have hge := (ou.blk hg).1
    refine ⟨fun hF => ?_, by omega⟩
    obtain ⟨_, _, _, _, _, hP⟩ := h
    have := hP.lt _ hF
    omega
  rintro _ H2 ⟨rfl, F2, h2, hw2, cx2⟩
  have hF2 : ¬ F2 w := cx2.not (Array.getElem?_eq_some_iff.1 hw1).1 hFw
  have cx : ChX (· = w) F F2 H H2 := x1.chx.trans cx2
  have ok2 := putS_ok ok x 3 (be4_byt x.data)
  have op2 := putS_ops s x 3 (be4 x.data)
  have nm2 := (putS_data s x 3 (be4 x.data)).2
  obtain ⟨q, hq⟩ : ∃ q, q = putS s x 3 (be4 x.data) := ⟨_, rfl⟩
  have hE : endW s x sy = (let t := if q.2.2 = 0 ∧ sy = true then syncS q.1 x.name else (q.1, q.2.2)
      (t.1, { q.2.1 with over := true }, if t.2 ≠ 0 then (0, 0#32, t.2) else (q.2.1.size, q.2.1.sum, 0))) := by
    unfold endW; rw [if_neg c0, hq]
  rw [← hq] at h2 hw2 ok2 op2 nm2 ⊢
  clear hq
  simp only [go_sem, ↓reduceIte, Nat.reduceEqDiff, Nat.reduceLeDiff, Nat.reduceAdd, Nat.reduceMul, Nat.reduceSub, Nat.reduceBEq, Nat.reduceGT, Nat.reduceLT, Int.reduceLE, Int.reduceLT, Int.reduceNeg, reduceCtorEq]
  refine ⟨rfl, hcan_of hw2 (by simp [wrC]), ?_⟩
  have hw3 : WrH (hput H2 w 5 [.bool true]) w b { q.2.1 with over := true } := by
    unfold WrH
    rw [hput_same hw2]; rfl
  have h3 := h2.put (o := 5) (vs := [.bool true]) hF2
  have c3 := cx.put (w := w) (o := 5) (vs := [.bool true]) (.inl rfl)
  generalize hput H2 w 5 [.bool true] = H3 at *
  obtain ⟨g0, g1, g2, g3, g4, g5⟩ := hw3.get
  simp only [ptrOf] at g0
  by_cases c1 : ¬ q.2.2 = 0
  · have hp : endW s x sy = (q.1, { q.2.1 with over := true }, 0, 0#32, q.2.2) := by
      rw [hE]
      simp only [c1, false_and, if_false, ne_eq, not_false_eq_true, if_true]
    simp only [go_sem, ↓reduceIte, Nat.reduceEqDiff, Nat.reduceLeDiff, Nat.reduceAdd, Nat.reduceMul, Nat.reduceSub, Nat.reduceBEq, Nat.reduceGT, Nat.reduceLT, Int.reduceLE, Int.reduceLT, Int.reduceNeg, reduceCtorEq, c1]
    rw [hp]
    exact ⟨rfl, F2, h3, hw3, c3⟩
  have c1' := Classical.not_not.1 c1
  by_cases c2 : sy = true
  · have hE' : endW s x sy = ((syncS q.1 x.name).1, { q.2.1 with over := true }, if (syncS q.1 x.name).2 ≠ 0 then (0, 0#32, (syncS q.1 x.name).2) else (q.2.1.size, q.2.1.sum, 0)) := by
      rw [hE]
      simp only [c1', c2, true_and, and_self, if_true]
    obtain ⟨mb, lb, hb', pv, dv, hP3⟩ := h3
    simp only [go_sem, ↓reduceIte, Nat.reduceEqDiff, Nat.reduceLeDiff, Nat.reduceAdd, Nat.reduceMul, Nat.reduceSub, Nat.reduceBEq, Nat.reduceGT, Nat.reduceLT, Int.reduceLE, Int.reduceLT, Int.reduceNeg, reduceCtorEq, c1', c2, g0, g1]
    refine FunI.by (F205 hP3 ok2 (by omega) q.2.1.name) ?_
    rintro _ H4 ⟨rfl, F4, h4, ch4⟩
    rw [nm2]
    rw [nm2] at h4
    have hw4 : WrH H4 w b { q.2.1 with over := true } := (ch4.chx (X := fun _ => False)).keep hw3 hF2 (fun e => e)
    have c4 := c3.trans ch4.chx
    by_cases c5 : (syncS q.1 x.name).2 ≠ 0
    · rw [if_pos c5] at hE'
      simp only [go_sem, ↓reduceIte, Nat.reduceEqDiff, Nat.reduceLeDiff, Nat.reduceAdd, Nat.reduceMul, Nat.reduceSub, Nat.reduceBEq, Nat.reduceGT, Nat.reduceLT, Int.reduceLE, Int.reduceLT, Int.reduceNeg, reduceCtorEq, c5]
      rw [hE']
      exact ⟨rfl, F4, h4, hw4, c4⟩
    rw [if_neg c5] at hE'
    have c5' := Classical.not_not.1 c5
    obtain ⟨g0, g1, g2, g3, g4, g5⟩ := hw4.get
    simp only [go_sem, ↓reduceIte, Nat.reduceEqDiff, Nat.reduceLeDiff, Nat.reduceAdd, Nat.reduceMul, Nat.reduceSub, Nat.reduceBEq, Nat.reduceGT, Nat.reduceLT, Int.reduceLE, Int.reduceLT, Int.reduceNeg, reduceCtorEq, c5', g2, g3]
    rw [hE']
    exact ⟨rfl, F4, h4, hw4, c4⟩
  have c2' : sy = false := by simpa using c2
  have hp : endW s x sy = (q.1, { q.2.1 with over := true }, q.2.1.size, q.2.1.sum, 0) := by
    rw [hE]
    simp only [c1', c2', and_false, if_false, ne_eq, not_true, Bool.false_eq_true]
  simp only [go_sem, ↓reduceIte, Nat.reduceEqDiff, Nat.reduceLeDiff, Nat.reduceAdd, Nat.reduceMul, Nat.reduceSub, Nat.reduceBEq, Nat.reduceGT, Nat.reduceLT, Int.reduceLE, Int.reduceLT, Int.reduceNeg, reduceCtorEq, c1', c2', g2, g3]
  rw [← c2', hp]
  exact ⟨rfl, F2, h3, hw3, c3⟩
end
end Go.Proofs.YtgigigchjnnonaaGreatDoor
