/- Both file systems tell the same. -/
import Derived.Test.YtmkheogjnlmkdaaVRfN
import Derived.Test.YtmkheogjnlmkdaaVFsO
set_option linter.unusedSimpArgs false
set_option linter.unusedVariables false
set_option maxRecDepth 20000
namespace Go.Proofs.Ytmkheogjnlmkdaa
open Go Go.V
-- 27: (pith/pithlaw8.both).tells
-- 33: (*pith/fs.FS).Names
-- 38: (*pith/fs.FS).Lasting
-- 13: (*pith/fs.FS).Held
-- 58: (*pith/fs.FS).Room
-- 24: (*pith/fs.FS).Pending
-- 30: (*pith/fs.FS).Ops
-- 29: (*pith/fs.FS).Power
-- 55: (*pith/pithref8.FS).Names
-- 56: (*pith/pithref8.FS).Lasting
-- 57: (*pith/pithref8.FS).Held
-- 59: (*pith/pithref8.FS).Room
-- 60: (*pith/pithref8.FS).Pending
-- 61: (*pith/pithref8.FS).Ops
-- 62: (*pith/pithref8.FS).Power
-- 51: pithlaw8.both
-- 40: pith/pithref.SameTexts
-- 41: pith/pithref.SameFiles
/-- What both tell without a name is the same. -/
structure Tells (s : St) (r : RSt) : Prop where
  names : ∀ ns, (if s.off then ns = [] else IsNames s.now ns) → ns = namesR r
  last : ∀ ns, IsNames s.last ns → ns.map (fun n => (n, lastD s n)) = leftR r 0 []
  held : heldS s = heldR r
  room : s.room = r.most
  pend : s.pend.length = r.dirs.length - 1
  ops : s.ops = r.count
  off : s.off = r.off
section
variable {H H' : Heap} {F F' : Nat → Prop} {b c : Nat} {s : St} {r : RSt}
set_option maxHeartbeats 3200000 in
theorem F27 (h : FsH H F b s) (ok : Ok s) (hn : s.ops < 1099511627776) (h8 : RFsH H F' c r) (ok8 : OkR r) (t : Tells s r) :
    Fun Try.prog 27 #[.agg #[ptrOf b, ptrOf c]] H (fun v H' => v = .bool true ∧ Ext H H') := by
  refine fun_of mixed (args := [_]) Try.func27 Try.ntmps27 b27 r27 rfl ?_
  simp only [go_sem, ↓reduceIte, Nat.reduceEqDiff, Nat.reduceLeDiff, Nat.reduceAdd, Nat.reduceMul, Nat.reduceSub, Nat.reduceBEq, Nat.reduceGT, Nat.reduceLT, Int.reduceLE, Int.reduceLT, Int.reduceNeg, reduceCtorEq, ptrOf]
  have x0 : Ext H (H.push (.cells #[.pointer (some ⟨b, 0, none⟩), .pointer (some ⟨c, 0, none⟩)] 51)) := Ext.push _
  have kb : (H.push (.cells #[.pointer (some ⟨b, 0, none⟩), .pointer (some ⟨c, 0, none⟩)] 51))[H.size]? = some (.cells #[.pointer (some ⟨b, 0, none⟩), .pointer (some ⟨c, 0, none⟩)] 51) := push_new
  have hsz : (H.push (.cells #[.pointer (some ⟨b, 0, none⟩), .pointer (some ⟨c, 0, none⟩)] 51)).size = H.size + 1 := by simp
  obtain ⟨G, hG⟩ : ∃ G, G = H.push (.cells #[.pointer (some ⟨b, 0, none⟩), .pointer (some ⟨c, 0, none⟩)] 51) := ⟨_, rfl⟩
  rw [← hG] at x0 kb hsz
  rw [← hG]
  have gg : ∀ {H' : Heap}, Ext G H' → hget H' H.size 0 = some (.pointer (some ⟨b, 0, none⟩)) ∧ hget H' H.size 1 = some (.pointer (some ⟨c, 0, none⟩)) := fun hx => by
    have : _ := hx.get H.size (by omega)
    rw [kb] at this
    simp only [hget_cells this]
    exact ⟨rfl, rfl⟩
  obtain ⟨mb, lb, hb, pv, dv, p⟩ := h
  obtain ⟨fv8, dv8, pv8, P8, Q8, p8⟩ := h8
  have hl1 := ok.hlen
  have okr := ok.room
  have hsum := ok.sum
  have hh0 : 0 ≤ heldS s := heldS_nonneg s
  have hnl : r.now.length ≤ 1000000000000 := ok8.nowL
  refine FunI.by (F33 (p.ext x0) ok hn) ?_
  rintro v1 H1 ⟨ns, hns, o1, x1⟩
  obtain ⟨b0, b1⟩ := gg x1
  simp only [go_sem, ↓reduceIte, Nat.reduceEqDiff, Nat.reduceLeDiff, Nat.reduceAdd, Nat.reduceMul, Nat.reduceSub, Nat.reduceBEq, Nat.reduceGT, Nat.reduceLT, Int.reduceLE, Int.reduceLT, Int.reduceNeg, reduceCtorEq, b0, b1, ext_refl]
  rw [← hG]
  refine ⟨x1, ?_⟩
  refine FunI.by (F55 ((p8.ext x0).ext x1) ok8) ?_
  rintro v2 H2 ⟨o2, x2⟩
  have x12 : Ext G H2 := x1.trans (x2.mono x1.size)
  have en : ns = namesR r := t.names ns hns
  have nl : (namesR r).length ≤ 1000000000000 := by unfold namesR; split <;> simp; exact hnl
  simp only [go_sem, ↓reduceIte, Nat.reduceEqDiff, Nat.reduceLeDiff, Nat.reduceAdd, Nat.reduceMul, Nat.reduceSub, Nat.reduceBEq, Nat.reduceGT, Nat.reduceLT, Int.reduceLE, Int.reduceLT, Int.reduceNeg, reduceCtorEq]
  rw [← hG]
  refine ⟨x12, ?_⟩
  refine FunI.by (F40 v1 v2 ns (namesR r) H2 (o1.ext x2).sl o2.sl (by rw [en]; omega)) ?_
  rintro _ _ ⟨rfl, rfl⟩
  obtain ⟨b0, b1⟩ := gg x12
  rw [en]
  simp only [go_sem, ↓reduceIte, Nat.reduceEqDiff, Nat.reduceLeDiff, Nat.reduceAdd, Nat.reduceMul, Nat.reduceSub, Nat.reduceBEq, Nat.reduceGT, Nat.reduceLT, Int.reduceLE, Int.reduceLT, Int.reduceNeg, reduceCtorEq, b0, b1, ext_refl]
  rw [← hG]
  refine ⟨x12, ?_⟩
  refine FunI.by (F38 ((p.ext x0).ext x12) ok hn) ?_
  rintro v3 H3 ⟨ns3, P3, hns3, hP3, o3, x3⟩
  have x13 : Ext G H3 := x12.trans (x3.mono x12.size)
  obtain ⟨b0, b1⟩ := gg x13
  simp only [go_sem, ↓reduceIte, Nat.reduceEqDiff, Nat.reduceLeDiff, Nat.reduceAdd, Nat.reduceMul, Nat.reduceSub, Nat.reduceBEq, Nat.reduceGT, Nat.reduceLT, Int.reduceLE, Int.reduceLT, Int.reduceNeg, reduceCtorEq, b0, b1, ext_refl]
  refine ⟨x3, ?_⟩
  refine FunI.by (F56 ((p8.ext x0).ext x13) ok8) ?_
  rintro v4 H4 ⟨P4, hP4, o4, x4⟩
  have x24 : Ext H2 H4 := x3.trans (x4.mono x3.size)
  have x14 : Ext G H4 := x12.trans (x24.mono x12.size)
  have el : P3.map (·.2) = P4.map (·.2) := by rw [hP3, hP4]; exact t.last ns3 hns3
  have hby : ∀ x ∈ P4.map (·.2), Byt x.2 := fun x hx => by
    rw [← el, hP3] at hx
    obtain ⟨n, hn2, rfl⟩ := List.mem_map.1 hx
    show Byt (lastD s n)
    unfold lastD
    cases hl : s.last n with
    | none => intro y hy; simp at hy
    | some f => exact fun y hy => ok.byt f (ok.lastH _ _ hl) y (List.mem_of_mem_take hy)
  have hlen : (P3.map (·.2)).length ≤ 2932031000000 := by
    rw [hP3, List.length_map]
    have := names_len hns3 ok.lastI ok.lastH
    omega
  simp only [go_sem, ↓reduceIte, Nat.reduceEqDiff, Nat.reduceLeDiff, Nat.reduceAdd, Nat.reduceMul, Nat.reduceSub, Nat.reduceBEq, Nat.reduceGT, Nat.reduceLT, Int.reduceLE, Int.reduceLT, Int.reduceNeg, reduceCtorEq]
  refine ⟨x24, ?_⟩
  refine FunI.by (F41 v3 v4 _ _ H4 ((o3.ext x4).n (N := fun _ => True) fun _ _ _ => trivial) (o4.n (N := fun _ => True) fun _ _ _ => trivial) hlen (by rw [el]; exact hby) hby) ?_
  rintro _ H5 ⟨rfl, x5⟩
  have x15 : Ext G H5 := x14.trans (x5.mono x14.size)
  obtain ⟨b0, b1⟩ := gg x15
  rw [el]
  simp only [go_sem, ↓reduceIte, Nat.reduceEqDiff, Nat.reduceLeDiff, Nat.reduceAdd, Nat.reduceMul, Nat.reduceSub, Nat.reduceBEq, Nat.reduceGT, Nat.reduceLT, Int.reduceLE, Int.reduceLT, Int.reduceNeg, reduceCtorEq, b0, b1, ext_refl, decide_true]
  have x25 : Ext H2 H5 := x24.trans (x5.mono x24.size)
  refine ⟨x25, ?_⟩
  refine FunI.by (F13 ((p.ext x0).ext x15) (by omega)) ?_
  rintro _ H6 ⟨rfl, x6⟩
  have x16 : Ext G H6 := x15.trans (x6.mono x15.size)
  obtain ⟨b0, b1⟩ := gg x16
  simp only [go_sem, ↓reduceIte, Nat.reduceEqDiff, Nat.reduceLeDiff, Nat.reduceAdd, Nat.reduceMul, Nat.reduceSub, Nat.reduceBEq, Nat.reduceGT, Nat.reduceLT, Int.reduceLE, Int.reduceLT, Int.reduceNeg, reduceCtorEq, b0, b1, ext_refl]
  refine ⟨x6, ?_⟩
  refine FunI.by (F57 ((p8.ext x0).ext x16) ok8 (by rw [← t.held]; omega)) ?_
  rintro _ H7 ⟨rfl, x7⟩
  have x17 : Ext G H7 := x16.trans (x7.mono x16.size)
  have x57 : Ext H5 H7 := x6.trans (x7.mono x6.size)
  obtain ⟨b0, b1⟩ := gg x17
  have q := (p.ext x0).ext x17
  have q8 := (p8.ext x0).ext x17
  rw [t.held]
  obtain ⟨a0, a1⟩ := gg x15
  simp only [go_sem, ↓reduceIte, Nat.reduceEqDiff, Nat.reduceLeDiff, Nat.reduceAdd, Nat.reduceMul, Nat.reduceSub, Nat.reduceBEq, Nat.reduceGT, Nat.reduceLT, Int.reduceLE, Int.reduceLT, Int.reduceNeg, reduceCtorEq, b0, b1, a0, a1, ext_refl]
  refine ⟨x57, ?_⟩
  refine FunI.by (F58 ⟨_, _, _, _, _, q⟩) ?_
  rintro _ _ ⟨rfl, rfl⟩
  simp only [go_sem, ↓reduceIte, Nat.reduceEqDiff, Nat.reduceLeDiff, Nat.reduceAdd, Nat.reduceMul, Nat.reduceSub, Nat.reduceBEq, Nat.reduceGT, Nat.reduceLT, Int.reduceLE, Int.reduceLT, Int.reduceNeg, reduceCtorEq, b0, b1, a0, a1, ext_refl, t.room, t.pend, t.ops, t.off, decide_true]
  refine ⟨x57, ?_⟩
  refine FunI.by (F59 q8) ?_
  rintro _ _ ⟨rfl, rfl⟩
  simp only [go_sem, ↓reduceIte, Nat.reduceEqDiff, Nat.reduceLeDiff, Nat.reduceAdd, Nat.reduceMul, Nat.reduceSub, Nat.reduceBEq, Nat.reduceGT, Nat.reduceLT, Int.reduceLE, Int.reduceLT, Int.reduceNeg, reduceCtorEq, b0, b1, a0, a1, ext_refl, t.room, t.pend, t.ops, t.off, decide_true]
  refine ⟨x57, ?_⟩
  refine FunI.by (F24 ⟨_, _, _, _, _, q⟩) ?_
  rintro _ _ ⟨rfl, rfl⟩
  simp only [go_sem, ↓reduceIte, Nat.reduceEqDiff, Nat.reduceLeDiff, Nat.reduceAdd, Nat.reduceMul, Nat.reduceSub, Nat.reduceBEq, Nat.reduceGT, Nat.reduceLT, Int.reduceLE, Int.reduceLT, Int.reduceNeg, reduceCtorEq, b0, b1, a0, a1, ext_refl, t.room, t.pend, t.ops, t.off, decide_true]
  refine ⟨x57, ?_⟩
  refine FunI.by (F60 q8 ok8.dne (by have := ok8.dl; omega)) ?_
  rintro _ _ ⟨rfl, rfl⟩
  simp only [go_sem, ↓reduceIte, Nat.reduceEqDiff, Nat.reduceLeDiff, Nat.reduceAdd, Nat.reduceMul, Nat.reduceSub, Nat.reduceBEq, Nat.reduceGT, Nat.reduceLT, Int.reduceLE, Int.reduceLT, Int.reduceNeg, reduceCtorEq, b0, b1, a0, a1, ext_refl, t.room, t.pend, t.ops, t.off, decide_true]
  refine ⟨x57, ?_⟩
  refine FunI.by (F30 ⟨_, _, _, _, _, q⟩) ?_
  rintro _ _ ⟨rfl, rfl⟩
  simp only [go_sem, ↓reduceIte, Nat.reduceEqDiff, Nat.reduceLeDiff, Nat.reduceAdd, Nat.reduceMul, Nat.reduceSub, Nat.reduceBEq, Nat.reduceGT, Nat.reduceLT, Int.reduceLE, Int.reduceLT, Int.reduceNeg, reduceCtorEq, b0, b1, a0, a1, ext_refl, t.room, t.pend, t.ops, t.off, decide_true]
  refine ⟨x57, ?_⟩
  refine FunI.by (F61 q8) ?_
  rintro _ _ ⟨rfl, rfl⟩
  simp only [go_sem, ↓reduceIte, Nat.reduceEqDiff, Nat.reduceLeDiff, Nat.reduceAdd, Nat.reduceMul, Nat.reduceSub, Nat.reduceBEq, Nat.reduceGT, Nat.reduceLT, Int.reduceLE, Int.reduceLT, Int.reduceNeg, reduceCtorEq, b0, b1, a0, a1, ext_refl, t.room, t.pend, t.ops, t.off, decide_true]
  refine ⟨x57, ?_⟩
  refine FunI.by (F29 ⟨_, _, _, _, _, q⟩) ?_
  rintro _ _ ⟨rfl, rfl⟩
  simp only [go_sem, ↓reduceIte, Nat.reduceEqDiff, Nat.reduceLeDiff, Nat.reduceAdd, Nat.reduceMul, Nat.reduceSub, Nat.reduceBEq, Nat.reduceGT, Nat.reduceLT, Int.reduceLE, Int.reduceLT, Int.reduceNeg, reduceCtorEq, b0, b1, a0, a1, ext_refl, t.room, t.pend, t.ops, t.off, decide_true]
  refine ⟨x57, ?_⟩
  refine FunI.by (F62 q8) ?_
  rintro _ _ ⟨rfl, rfl⟩
  simp only [go_sem, ↓reduceIte, Nat.reduceEqDiff, Nat.reduceLeDiff, Nat.reduceAdd, Nat.reduceMul, Nat.reduceSub, Nat.reduceBEq, Nat.reduceGT, Nat.reduceLT, Int.reduceLE, Int.reduceLT, Int.reduceNeg, reduceCtorEq, b0, b1, a0, a1, ext_refl, t.room, t.pend, t.ops, t.off, decide_true]
  exact ⟨x57, x0.ext (by omega) x17⟩
end
end Go.Proofs.Ytmkheogjnlmkdaa
