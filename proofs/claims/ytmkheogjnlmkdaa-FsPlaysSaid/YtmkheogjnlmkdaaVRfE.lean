/- The reference: does. -/
import Derived.Test.YtmkheogjnlmkdaaVRfD
set_option linter.unusedSimpArgs false
set_option linter.unusedVariables false
set_option maxRecDepth 20000
namespace Go.Proofs.Ytmkheogjnlmkdaa
open Go Go.V
-- 87: (*pith/pithref8.FS).now
-- 94: (*pith/pithref8.FS).power
-- 93: (*pith/pithref8.FS).does
-- 101: pith/pithref8.told
-- 100: pithref8.FS
-- 5: uint8
-- 125: pithref8.Entry
-- 122: []pithref8.Entry
-- 96: [][]pithref8.Entry
-- 129: pithref8.Data
-- 97: []pithref8.Data
-- 139: pithref8.Done
-- 98: []pithref8.Done
section
variable {H H' : Heap} {F F' : Nat → Prop} {b : Nat} {fv dv pv fv' dv' pv' : Value} {P P' : List (Value × Dt)} {Q Q' : List (Value × List En)} {r r0 r' : RSt}
theorem RFsP.more (h : RFsP H F b fv dv pv P Q r) (hF : ∀ g, F g → F' g) (hl : ∀ g, F' g → g < H.size) : RFsP H F' b fv dv pv P Q r :=
  ⟨h.eP, h.eQ, h.hM, h.hF, fun p hp => ⟨(h.hw p hp).1, fun g k => hF g ((h.hw p hp).2 g k)⟩, h.ap, h.hD, fun p hp => ⟨(h.hv p hp).1, fun g k => hF g ((h.hv p hp).2 g k)⟩, h.hP,
    hF _ h.fb, fun g k => hF g (h.ff g k), fun g k => hF g (h.fd g k), fun g k => hF g (h.fp g k), hl⟩
theorem RFsP.grow (h : RFsP H F b fv dv pv P Q r) (hx : Ext H H') : RFsP H' (Gr F H H') b fv dv pv P Q r ∧ Ch F (Gr F H H') H H' :=
  ⟨(h.ext hx).more (fun _ h => .inl h) (h.lt' hx.size), ⟨hx.size, fun g hg => hg.imp_right fun h => h.1, fun g hg _ => hx.get g hg⟩⟩
set_option maxHeartbeats 1600000 in
theorem F93 (h : RFsP H F b fv dv pv P Q r) (hoff : r.off = false) (ok : 0 ≤ r.armed ∧ r.armed < 9223372036854775808) (hops : 0 ≤ r.count ∧ r.count < 4611686018427387904)
    (h0 : 0 < r.dirs.length) (hl : r.dirs.length ≤ 1000000000000) (hn : r.now.length ≤ 1000000000000) (hp : r.pend.length ≤ 1000000000000) (x : Nat) (n : Nm) :
    Fun Try.prog 93 #[ptrOf b, .int .i64 x, .string n] H (fun v H' => v = .int .i64 (doesR r x n).2 ∧ ∃ F', RFsH H' F' b (doesR r x n).1 ∧ Ch F F' H H') := by
  refine fun_of mixed (args := [_, _, _]) Try.func93 Try.ntmps93 b93 r93 rfl ?_
  simp only [go_sem, ↓reduceIte, Nat.reduceEqDiff, Nat.reduceLeDiff, Nat.reduceAdd, Nat.reduceMul, Nat.reduceSub, Nat.reduceBEq, Nat.reduceGT, Nat.reduceLT, Int.reduceLE, Int.reduceLT, Int.reduceNeg, reduceCtorEq, ptrOf]
  have e0 : (H.push (.cells #[.int .i64 0, .string ⟨#[]⟩] 139))[H.size]? = some (.cells #[.int .i64 0, .string ⟨#[]⟩] 139) := push_new
  have x1 : Ext H (hput (H.push (.cells #[.int .i64 0, .string ⟨#[]⟩] 139)) H.size 0 [.int .i64 x, .string n]) := (Ext.push _).hput (Nat.le_refl _)
  have k1 : (hput (H.push (.cells #[.int .i64 0, .string ⟨#[]⟩] 139)) H.size 0 [.int .i64 x, .string n])[H.size]? = some (.cells #[.int .i64 x, .string n] 139) := by rw [hput_same e0]; rfl
  have s1 : (hput (H.push (.cells #[.int .i64 0, .string ⟨#[]⟩] 139)) H.size 0 [.int .i64 x, .string n]).size = H.size + 1 := by rw [hput_size]; simp
  refine ⟨rfl, hcan_of e0 (by simp), ?_⟩
  generalize hput (H.push (.cells #[.int .i64 0, .string ⟨#[]⟩] 139)) H.size 0 [.int .i64 x, .string n] = H1 at *
  obtain ⟨h1, c1⟩ := h.grow x1
  obtain ⟨g0, g1, g2, g3, g4, g5, g6⟩ := h1.get
  have n0 : hget H1 H.size 0 = some (.int .i64 x) := by rw [hget_cells k1]; rfl
  have n1 : hget H1 H.size 1 = some (.string n) := by rw [hget_cells k1]; rfl
  simp only [go_sem, ↓reduceIte, Nat.reduceEqDiff, Nat.reduceLeDiff, Nat.reduceAdd, Nat.reduceMul, Nat.reduceSub, Nat.reduceBEq, Nat.reduceGT, Nat.reduceLT, Int.reduceLE, Int.reduceLT, Int.reduceNeg, reduceCtorEq, g3, n0, n1, Option.bind_some, ext_push, ext_refl]
  refine RunI.by (append_lit ty98 ty139 rfl (by decide) h1.hP (ys := [_, _]) (m := 1) rfl rfl (n := r.pend.length + 1) (by rw [doneC_len]; simp; omega) (by omega) (by omega) (Nat.zero_le _)) ?_
  rintro pv' H2 ⟨o2, gr, _⟩
  obtain ⟨p1, F2, h2, c2⟩ := h1.setP (pe := r.pend ++ [(x, n)]) gr.but (by rw [doneC_snoc]; exact o2) gr.at'
  have ev := Sl.form o2.sl
  have hbl : b < H.size := h.lt b h.fb
  have k2 : (hput H2 b 3 [pv'])[H.size]? = some (.cells #[.int .i64 x, .string n] 139) := by
    rw [hput_other _ _ _ _ (by omega), gr.but.get H.size (by omega) fun e => ?_]
    · exact k1
    · have := h.lt _ (h.fp _ e.symm); omega
  obtain ⟨_, _, _, rfl⟩ := ev
  simp only [go_sem, ↓reduceIte, Nat.reduceEqDiff, Nat.reduceLeDiff, Nat.reduceAdd, Nat.reduceMul, Nat.reduceSub, Nat.reduceBEq, Nat.reduceGT, Nat.reduceLT, Int.reduceLE, Int.reduceLT, Int.reduceNeg, reduceCtorEq, p1]
  refine ⟨rfl, ?_⟩
  generalize hput H2 b 3 [_] = H3 at *
  obtain ⟨g0, g1, g2, g3, g4, g5, g6⟩ := h2.get
  have n0 : hget H3 H.size 0 = some (.int .i64 x) := by rw [hget_cells k2]; rfl
  have n1 : hget H3 H.size 1 = some (.string n) := by rw [hget_cells k2]; rfl
  simp only [go_sem, ↓reduceIte, Nat.reduceEqDiff, Nat.reduceLeDiff, Nat.reduceAdd, Nat.reduceMul, Nat.reduceSub, Nat.reduceBEq, Nat.reduceGT, Nat.reduceLT, Int.reduceLE, Int.reduceLT, Int.reduceNeg, reduceCtorEq, g2, n0, n1, Option.bind_some, ext_push, ext_refl]
  refine FunI.by (F87 h2 h0 (by show r.dirs.length ≤ _; omega)) ?_
  rintro v _ ⟨⟨ov, hvF⟩, rfl⟩
  simp only [go_sem, ↓reduceIte, Nat.reduceEqDiff, Nat.reduceLeDiff, Nat.reduceAdd, Nat.reduceMul, Nat.reduceSub, Nat.reduceBEq, Nat.reduceGT, Nat.reduceLT, Int.reduceLE, Int.reduceLT, Int.reduceNeg, reduceCtorEq, ext_push, ext_refl]
  refine FunI.by (F101 ov.sl (by show r.now.length ≤ _; omega) x n) ?_
  rintro w H4 ⟨ow, x4⟩
  refine ⟨x4, ?_⟩
  obtain ⟨h4, c4⟩ := h2.grow x4
  have owF : ∀ g, blk w = some g → Gr F2 H3 H4 g := fun g hg => .inr ⟨(ow.blk hg).1, (ow.blk hg).2.1⟩
  have ow0 := ow.mono (Nat.zero_le _)
  have ew := Sl.form ow.sl
  obtain ⟨_, _, _, rfl⟩ := ew
  simp only [go_sem, ↓reduceIte, Nat.reduceEqDiff, Nat.reduceLeDiff, Nat.reduceAdd, Nat.reduceMul, Nat.reduceSub, Nat.reduceBEq, Nat.reduceGT, Nat.reduceLT, Int.reduceLE, Int.reduceLT, Int.reduceNeg, reduceCtorEq]
  refine ⟨Upto.push x4 x4.size _, ?_⟩
  refine RunI.by (append_lit ty96 ty122 rfl (by decide) h4.hD (ys := [_]) (m := 1) rfl rfl (n := r.dirs.length + 1) (by rw [List.length_map, h4.dlen]; simp) (by omega) (by omega) (Nat.zero_le _)) ?_
  rintro dv' H5 ⟨o5, gr5, _⟩
  obtain ⟨p5, F5, h5, c5⟩ := h4.setD gr5.but o5 gr5.at' ow0 owF
  have e5 := Sl.form o5.sl
  obtain ⟨_, _, _, rfl⟩ := e5
  simp only [go_sem, ↓reduceIte, Nat.reduceEqDiff, Nat.reduceLeDiff, Nat.reduceAdd, Nat.reduceMul, Nat.reduceSub, Nat.reduceBEq, Nat.reduceGT, Nat.reduceLT, Int.reduceLE, Int.reduceLT, Int.reduceNeg, reduceCtorEq, p5]
  refine ⟨rfl, ?_⟩
  refine FunI.by (F94 h5 hoff ok hops) ?_
  rintro _ H6 ⟨rfl, h6, c6⟩
  simp only [go_sem, ↓reduceIte, Nat.reduceEqDiff, Nat.reduceLeDiff, Nat.reduceAdd, Nat.reduceMul, Nat.reduceSub, Nat.reduceBEq, Nat.reduceGT, Nat.reduceLT, Int.reduceLE, Int.reduceLT, Int.reduceNeg, reduceCtorEq]
  exact ⟨rfl, F5, ⟨_, _, _, _, _, h6⟩, (((c1.trans c2).trans c4).trans c5).trans c6⟩
end
end Go.Proofs.Ytmkheogjnlmkdaa
