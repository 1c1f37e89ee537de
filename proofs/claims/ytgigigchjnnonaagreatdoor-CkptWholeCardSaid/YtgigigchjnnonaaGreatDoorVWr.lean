/- Writers of files. -/
import Derived.Test.YtgigigchjnnonaaGreatDoorVDecF
import Derived.Test.YtgigigchjnnonaaGreatDoorVFsD
set_option linter.unusedSimpArgs false
set_option linter.unusedVariables false
set_option maxRecDepth 20000
namespace Go.V
open Go
/-- The file system's blocks alone turn, and those of X. -/
structure ChX (X F F' : Nat → Prop) (H H' : Heap) : Prop where
  size : H.size ≤ H'.size
  old : ∀ g, F' g → F g ∨ H.size ≤ g
  get : ∀ g, g < H.size → ¬ F g → ¬ X g → H'[g]? = H[g]?
theorem ChX.trans {X F F' F'' : Nat → Prop} {H H' H'' : Heap} (h : ChX X F F' H H') (k : ChX X F' F'' H' H'') : ChX X F F'' H H'' := by
  refine ⟨Nat.le_trans h.size k.size, fun g hg => ?_, fun g hg hn hx => ?_⟩
  · rcases k.old g hg with e | e
    · exact h.old g e
    · exact .inr (Nat.le_trans h.size e)
  · rw [k.get g (Nat.lt_of_lt_of_le hg h.size) (fun e => ?_) hx, h.get g hg hn hx]
    rcases h.old g e with e | e
    · exact hn e
    · omega
theorem ChX.mono {X Y F F' : Nat → Prop} {H H' : Heap} (h : ChX X F F' H H') (hx : ∀ g, X g → Y g) : ChX Y F F' H H' := ⟨h.size, h.old, fun g hg hn hy => h.get g hg hn fun e => hy (hx g e)⟩
theorem ChX.refl (X F : Nat → Prop) (H : Heap) : ChX X F F H H := ⟨Nat.le_refl _, fun _ h => .inl h, fun _ _ _ _ => rfl⟩
theorem Ch.chx {X F F' : Nat → Prop} {H H' : Heap} (h : Ch F F' H H') : ChX X F F' H H' := ⟨h.size, h.old, fun g hg hn _ => h.get g hg hn⟩
theorem Ext.chx {X F : Nat → Prop} {H H' : Heap} (h : Ext H H') : ChX X F F H H' := ⟨h.size, fun _ h => .inl h, fun g hg _ _ => h.get g hg⟩
/-- A block that is none of these is as it was. -/
theorem ChX.keep {X F F' : Nat → Prop} {H H' : Heap} (h : ChX X F F' H H') {g : Nat} {o : Obj} (hg : H[g]? = some o) (hF : ¬ F g) (hX : ¬ X g) : H'[g]? = some o := by
  rw [h.get g (Array.getElem?_eq_some_iff.1 hg).1 hF hX]; exact hg
theorem ChX.not {X F F' : Nat → Prop} {H H' : Heap} (h : ChX X F F' H H') {g : Nat} (hg : g < H.size) (hF : ¬ F g) : ¬ F' g := fun e => by
  rcases h.old g e with e | e
  · exact hF e
  · omega
theorem ChX.crc {X F F' : Nat → Prop} {H H' : Heap} (h : ChX X F F' H H') (ht : CrcTab H) (hF : ¬ F 0) (hX : ¬ X 0) : CrcTab H' := by
  obtain ⟨t, fr, ht⟩ := ht
  exact ⟨t, fr, h.keep ht hF hX⟩
theorem ChX.put {X F F' : Nat → Prop} {H H' : Heap} {w o : Nat} {vs : List Value} (h : ChX X F F' H H') (hw : X w ∨ H.size ≤ w) : ChX X F F' H (hput H' w o vs) := by
  refine ⟨by rw [hput_size]; exact h.size, h.old, fun g hg hn hx => ?_⟩
  rw [hput_other H' w o vs (by rcases hw with e | e <;> rintro rfl; exact hx e; omega)]
  exact h.get g hg hn hx
theorem CrcTab.ne {H : Heap} (ht : CrcTab H) {w : Nat} {c : Array Value} {e : TypeId} {fr : Nat × Nat} (hw : H[w]? = some (.cells c e fr)) (hc : c.size ≠ 16) : w ≠ 0 := by
  rintro rfl
  obtain ⟨t, fr', ht⟩ := ht
  rw [ht] at hw
  simp only [Option.some.injEq, Obj.cells.injEq] at hw
  apply hc
  rw [← hw.1]
  simp [tabC]
/-- A slice whose block is as it was. -/
theorem Sl.keep1 {H H' : Heap} {e : TypeId} {sz : Nat} {v : Value} {vs : List Value} (h : Sl H e sz v vs) (hk : ∀ g, blk v = some g → g < H.size → H'[g]? = H[g]?) : Sl H' e sz v vs := by
  obtain ⟨a, len, cap, rfl, hc, hl, hd⟩ := h
  refine ⟨a, len, cap, rfl, hc, hl, ?_⟩
  rcases hd with hd | ⟨b, o, c, t, fr, rfl, hb, hg⟩
  · exact .inl hd
  · exact .inr ⟨b, o, c, t, fr, rfl, by rw [hk b rfl (Array.getElem?_eq_some_iff.1 hb).1]; exact hb, hg⟩
theorem ChX.sl {X F F' : Nat → Prop} {H H' : Heap} {e : TypeId} {sz : Nat} {v : Value} {vs : List Value} (h : ChX X F F' H H') (hs : Sl H e sz v vs) (hv : ∀ g, blk v = some g → ¬ F g ∧ ¬ X g) : Sl H' e sz v vs :=
  hs.keep1 fun g hg hl => h.get g hl (hv g hg).1 (hv g hg).2
theorem ChX.ints {X F F' : Nat → Prop} {H H' : Heap} {e : TypeId} {k : IntKind} {v : Value} {p : List Int} (h : ChX X F F' H H') (hs : Ints H e k v p) (hv : p = [] ∨ ∀ g, blk v = some g → ¬ F g ∧ ¬ X g) : Ints H' e k v p := by
  rcases hv with rfl | hv
  · obtain ⟨a, len, cap, rfl, hc, hl, hd⟩ := hs
    refine ⟨a, len, cap, rfl, hc, hl, .inl ?_⟩
    simp at hl; omega
  · exact h.sl hs hv
end Go.V
namespace Go.Proofs.YtgigigchjnnonaaGreatDoor
open Go Go.V
/-- A writer, plainly. -/
structure WrS where
  name : Nm
  size : Int
  sum : W32
  data : Int
  over : Bool
def putS (s : St) (x : WrS) (k : Int) (p : List Int) : St × WrS × Int :=
  if encE k p ≠ 0 then (s, x, encE k p) else
  if (appendS s x.name (encL k p)).2 ≠ 0 then ((appendS s x.name (encL k p)).1, { x with over := true }, (appendS s x.name (encL k p)).2) else
  ((appendS s x.name (encL k p)).1, { x with size := x.size + (12 + p.length), sum := if k = 3 then x.sum else crcW x.sum p }, 0)
theorem encO_eq {k : Int} {p : List Int} (h : encE k p = 0) : encO k p = encL k p ∧ p.length ≤ 1024 ∧ (k = 1 ∨ k = 2 ∨ k = 3) := by
  unfold encE at h
  unfold encO
  split at h
  · cases h
  · rename_i h1
    split at h
    · cases h
    · rename_i h2
      exact ⟨by rw [if_neg h1, if_neg h2], by omega, Classical.not_not.1 h1⟩
def wrC (d : Nat) (x : WrS) : Array Value := #[ptrOf d, .string x.name, .int .i64 x.size, .int .u32 (wI x.sum), .int .i64 x.data, .bool x.over]
def WrH (H : Heap) (w d : Nat) (x : WrS) : Prop := H[w]? = some (.cells (wrC d x) 205)
theorem WrH.get {H : Heap} {w d : Nat} {x : WrS} (h : WrH H w d x) : hget H w 0 = some (ptrOf d) ∧ hget H w 1 = some (.string x.name) ∧ hget H w 2 = some (.int .i64 x.size) ∧ hget H w 3 = some (.int .u32 (wI x.sum)) ∧ hget H w 4 = some (.int .i64 x.data) ∧ hget H w 5 = some (.bool x.over) := by
  simp only [hget_cells h]
  exact ⟨rfl, rfl, rfl, rfl, rfl, rfl⟩
theorem FsH.put {H : Heap} {F : Nat → Prop} {b w o : Nat} {s : St} {vs : List Value} (h : FsH H F b s) (hw : ¬ F w) : FsH (hput H w o vs) F b s := by
  obtain ⟨_, _, _, _, _, h⟩ := h
  exact ⟨_, _, _, _, _, h.keep (by rw [hput_size]; exact Nat.le_refl _) fun g hg => hput_other H w o vs fun e => hw (e ▸ hg)⟩
theorem F204 (n : Int) (H : Heap) (hn : 0 ≤ n ∧ n < 4294967296) :
    Fun Tryz.prog 204 #[.int .i64 n] H (fun r H' => V.Own H' H.size 5 1 r ((be4 n).map (.int .u8)) ∧ Ext H H') := by
  refine fun_of mixed (args := [_]) Tryz.func204 Tryz.ntmps204 b204 r204 rfl ?_
  have s1 : ishr .i64 n 24 = n / 16777216 := by rw [ishr_eq (by decide) (by decide)]; rfl
  have s2 : ishr .i64 n 16 = n / 65536 := by rw [ishr_eq (by decide) (by decide)]; rfl
  have s3 : ishr .i64 n 8 = n / 256 := i64_shr8
  simp only [go_sem, ↓reduceIte, Nat.reduceEqDiff, Nat.reduceLeDiff, Nat.reduceAdd, Nat.reduceMul, Nat.reduceSub, Nat.reduceBEq, Nat.reduceGT, Nat.reduceLT, Int.reduceLE, Int.reduceLT, Int.reduceNeg, reduceCtorEq, s1, s2, s3, wu8]
  refine ⟨?_, Ext.push _⟩
  exact Own.raw (vs := [_, _, _, _]) push_new rfl (Nat.le_refl _) (by unfold maxLen; omega)
set_option maxHeartbeats 800000 in
theorem F203 {H : Heap} {F : Nat → Prop} {b w : Nat} {s : St} {x : WrS} {k : Int} {v : Value} {p : List Int} (h : FsH H F b s) (ok : Ok s) (ho : s.ops < 1099511627776) (hw : WrH H w b x) (hFw : ¬ F w) (h0 : ¬ F 0) (ht : CrcTab H)
    (hv : Ints H 5 .u8 v p) (hb : Byt p) (hl : p.length < 4611686018427387904) (hvF : p = [] ∨ ∀ g, blk v = some g → ¬ F g ∧ g ≠ w) (hz : 0 ≤ x.size ∧ x.size < 4611686018427387904) :
    Fun Tryz.prog 203 #[ptrOf w, .int .i64 k, v] H (fun r H' => r = .int .i64 (putS s x k p).2.2 ∧ ∃ F', FsH H' F' b (putS s x k p).1 ∧ WrH H' w b (putS s x k p).2.1 ∧ ChX (· = w) F F' H H') := by
  obtain ⟨a, cap, rfl⟩ := hv.form
  refine fun_of mixed (args := [_, _, _]) Tryz.func203 Tryz.ntmps203 b203 r203 rfl ?_
  simp only [go_sem, ↓reduceIte, Nat.reduceEqDiff, Nat.reduceLeDiff, Nat.reduceAdd, Nat.reduceMul, Nat.reduceSub, Nat.reduceBEq, Nat.reduceGT, Nat.reduceLT, Int.reduceLE, Int.reduceLT, Int.reduceNeg, reduceCtorEq, ptrOf]
  refine FunI.by (F272 hv hb ht (by omega)) ?_
  rintro _ H1 ⟨u, rfl, ou, x1⟩
  by_cases c0 : encE k p ≠ 0
  · have hp : putS s x k p = (s, x, encE k p) := by unfold putS; rw [if_pos c0]
    simp only [go_sem, ↓reduceIte, Nat.reduceEqDiff, Nat.reduceLeDiff, Nat.reduceAdd, Nat.reduceMul, Nat.reduceSub, Nat.reduceBEq, Nat.reduceGT, Nat.reduceLT, Int.reduceLE, Int.reduceLT, Int.reduceNeg, reduceCtorEq, c0, hp]
    exact ⟨F, h.ext x1, x1.old hw, x1.chx⟩
  have c0' := Classical.not_not.1 c0
  obtain ⟨eO, hp4, hk⟩ := encO_eq c0'
  rw [eO] at ou
  have hw1 : WrH H1 w b x := x1.old hw
  obtain ⟨g0, g1, g2, g3, g4, g5⟩ := hw1.get
  obtain ⟨mb, lb, hb', pv, dv, hP⟩ := h.ext x1
  simp only [ptrOf] at g0
  simp only [go_sem, ↓reduceIte, Nat.reduceEqDiff, Nat.reduceLeDiff, Nat.reduceAdd, Nat.reduceMul, Nat.reduceSub, Nat.reduceBEq, Nat.reduceGT, Nat.reduceLT, Int.reduceLE, Int.reduceLT, Int.reduceNeg, reduceCtorEq, c0', g0, g1]
  refine FunI.by (F63 hP ok ho x.name ou.sl (by rw [encL_len]; omega)) ?_
  rintro _ H2 ⟨rfl, F', h2, ch⟩
  have hw2 : WrH H2 w b x := by
    have := ch.get w (Array.getElem?_eq_some_iff.1 hw1).1 hFw
    unfold WrH; rw [this]; exact hw1
  have cx : ChX (· = w) F F' H H2 := x1.chx.trans ch.chx
  have hF' : ¬ F' w := cx.not (Array.getElem?_eq_some_iff.1 hw).1 hFw
  by_cases c1 : (appendS s x.name (encL k p)).2 ≠ 0
  · have hp : putS s x k p = ((appendS s x.name (encL k p)).1, { x with over := true }, (appendS s x.name (encL k p)).2) := by unfold putS; rw [if_neg c0, if_pos c1]
    simp only [go_sem, ↓reduceIte, Nat.reduceEqDiff, Nat.reduceLeDiff, Nat.reduceAdd, Nat.reduceMul, Nat.reduceSub, Nat.reduceBEq, Nat.reduceGT, Nat.reduceLT, Int.reduceLE, Int.reduceLT, Int.reduceNeg, reduceCtorEq, c1, hp]
    refine ⟨rfl, hcan_of hw2 (by simp [wrC]), F', h2.put hF', ?_, cx.put (.inl rfl)⟩
    unfold WrH
    rw [hput_same hw2]; rfl
  have c1' := Classical.not_not.1 c1
  obtain ⟨au, cu, eu⟩ := Ints.form (xs := encL k p) (k := .u8) ou.sl
  obtain ⟨g0, g1, g2, g3, g4, g5⟩ := hw2.get
  subst eu
  have eL : (encL k p).length = 12 + p.length := encL_len k p
  have e3 : IntKind.i64.wrap (x.size + ((12 + p.length : Nat) : Int)) = x.size + (12 + p.length) := by rw [w64_id (by omega) (by omega)]; omega
  simp only [go_sem, ↓reduceIte, Nat.reduceEqDiff, Nat.reduceLeDiff, Nat.reduceAdd, Nat.reduceMul, Nat.reduceSub, Nat.reduceBEq, Nat.reduceGT, Nat.reduceLT, Int.reduceLE, Int.reduceLT, Int.reduceNeg, reduceCtorEq, c1', g2, eL, e3]
  refine ⟨rfl, hcan_of hw2 (by simp [wrC]), ?_⟩
  have hw3 : WrH (hput H2 w 2 [.int .i64 (x.size + (12 + p.length))]) w b { x with size := x.size + (12 + p.length) } := by
    unfold WrH
    rw [hput_same hw2]; rfl
  have h3 := h2.put (o := 2) (vs := [.int .i64 (x.size + (12 + p.length))]) hF'
  have c3 := cx.put (w := w) (o := 2) (vs := [.int .i64 (x.size + (12 + p.length))]) (.inl rfl)
  have hv3 := c3.ints hv hvF
  have ht3 := c3.crc ht h0 (fun e => ht.ne hw (by simp [wrC]) e.symm)
  generalize hput H2 w 2 [.int .i64 (x.size + (12 + p.length))] = H3 at *
  obtain ⟨g0, g1, g2, g3, g4, g5⟩ := hw3.get
  by_cases ck : k = 3
  · have hp : putS s x k p = ((appendS s x.name (encL k p)).1, { x with size := x.size + (12 + p.length) }, 0) := by unfold putS; rw [if_neg c0, if_neg c1, if_pos ck]
    simp only [go_sem, ↓reduceIte, Nat.reduceEqDiff, Nat.reduceLeDiff, Nat.reduceAdd, Nat.reduceMul, Nat.reduceSub, Nat.reduceBEq, Nat.reduceGT, Nat.reduceLT, Int.reduceLE, Int.reduceLT, Int.reduceNeg, reduceCtorEq, ck, ne_eq, not_true, decide_false]
    rw [← ck, hp]
    exact ⟨rfl, F', h3, hw3, c3⟩
  have hp : putS s x k p = ((appendS s x.name (encL k p)).1, { x with size := x.size + (12 + p.length), sum := crcW x.sum p }, 0) := by unfold putS; rw [if_neg c0, if_neg c1, if_neg ck]
  simp only [go_sem, ↓reduceIte, Nat.reduceEqDiff, Nat.reduceLeDiff, Nat.reduceAdd, Nat.reduceMul, Nat.reduceSub, Nat.reduceBEq, Nat.reduceGT, Nat.reduceLT, Int.reduceLE, Int.reduceLT, Int.reduceNeg, reduceCtorEq, ck, g3]
  refine FunI.by (F273 x.sum hv3 hb ht3 (by omega)) ?_
  rintro _ _ ⟨rfl, rfl⟩
  simp only [go_sem, ↓reduceIte, Nat.reduceEqDiff, Nat.reduceLeDiff, Nat.reduceAdd, Nat.reduceMul, Nat.reduceSub, Nat.reduceBEq, Nat.reduceGT, Nat.reduceLT, Int.reduceLE, Int.reduceLT, Int.reduceNeg, reduceCtorEq]
  refine ⟨rfl, hcan_of hw3 (by simp [wrC]), ?_⟩
  rw [hp]
  refine ⟨rfl, F', h3.put hF', ?_, c3.put (.inl rfl)⟩
  unfold WrH
  rw [hput_same hw3]; rfl
end Go.Proofs.YtgigigchjnnonaaGreatDoor
