/- One call at both file systems: Append. -/
import Derived.Test.YtmkheogjnlmkdaaVPlayB
set_option linter.unusedSimpArgs false
set_option linter.unusedVariables false
set_option maxRecDepth 20000
namespace Go.Proofs.Ytmkheogjnlmkdaa
open Go Go.V
-- 44: (pith/pithlaw8.both).plays
-- 27: (pith/pithlaw8.both).tells
-- 22: pith/pithlaw8.num
-- 39: (*pith/fs.FS).Create
-- 20: (*pith/fs.FS).Append
-- 21: (*pith/fs.FS).Sync
-- 45: (*pith/fs.FS).Rename
-- 46: (*pith/fs.FS).Remove
-- 34: (*pith/fs.FS).SyncDir
-- 31: (*pith/fs.FS).Read
-- 32: (*pith/fs.FS).Size
-- 28: (*pith/fs.FS).Arm
-- 25: (*pith/fs.FS).Crash
-- 81: (*pith/fs.FS).Rot
-- 68: (*pith/pithref8.FS).Create
-- 70: (*pith/pithref8.FS).Append
-- 71: (*pith/pithref8.FS).Sync
-- 72: (*pith/pithref8.FS).Rename
-- 73: (*pith/pithref8.FS).Remove
-- 74: (*pith/pithref8.FS).SyncDir
-- 75: (*pith/pithref8.FS).Read
-- 76: (*pith/pithref8.FS).Size
-- 77: (*pith/pithref8.FS).Arm
-- 79: (*pith/pithref8.FS).Crash
-- 82: (*pith/pithref8.FS).Rot
-- 69: pith/pithref.Bytes
-- 48: pith/pithref.SameBytes
-- 78: pith/pithref.Ints
-- 80: pith/pithref.SameInts
-- 51: pithlaw8.both
-- 75: pithlaw8.Op
-- 5: uint8
-- 3: int
-- 34: []uint8
-- 62: []int
section
variable {H H' : Heap} {U F G : Nat → Prop} {b c : Nat} {s : St} {r : RSt} {φ : Nat → Nat} {m : Int}
set_option maxHeartbeats 3200000 in
theorem plays_2 (y : ClV) (hy : ClOk H y) (hB : B8E H U b c m) (hm : m < 999999999990) (hk : y.x.kind = 2) (hN : ∀ g, (y.x.d ≠ [] ∧ blk y.dv = some g) ∨ (y.x.c ≠ [] ∧ blk y.cv = some g) → ¬ U g) (hfit : y.x.d.length ≤ 16384) :
    Fun Try.prog 44 #[.agg #[ptrOf b, ptrOf c], .agg (clC y).toArray] H (fun v H' => v = .bool true ∧ ∃ U', B8E H' U' b c (m + 1) ∧ Ch U U' H H') := by
  refine fun_of mixed (args := [_, _]) Try.func44 Try.ntmps44 b44 r44 rfl ?_
  obtain ⟨F, G, φ, s, r, h8, hops, hU⟩ := hB
  have bx0 := bx_new H b c y
  obtain ⟨⟨k, a, e, n, t, d, cu, o⟩, dv, cv⟩ := y
  simp only at hk
  subst hk
  have ltF := h8.lt.1
  have ltG := h8.lt.2
  obtain ⟨K, hK⟩ : ∃ K, K = (H.push (.cells #[.pointer (some ⟨b, 0, none⟩), .pointer (some ⟨c, 0, none⟩)] 51)).push (.cells #[.int .i64 2, .int .i64 a, .int .i64 e, .string n, .string t, dv, cv, .bool o] 75) := ⟨_, rfl⟩
  have bx : Bx H K b c ⟨⟨2, a, e, n, t, d, cu, o⟩, dv, cv⟩ := by rw [hK]; exact bx0
  clear bx0
  have k8 := h8.ext bx.ext
  have nF : ∀ x, (x = H.size ∨ x = H.size + 1) → ¬ F x := fun x hx hf => by have := ltF x hf; omega
  have nG : ∀ x, (x = H.size ∨ x = H.size + 1) → ¬ G x := fun x hx hf => by have := ltG x hf; omega
  have dl : d.length ≤ 16384 := hfit
  have hdK : Ints K 5 .u8 dv d := hy.d.ext bx.ext
  obtain ⟨ad, cd, rfl⟩ := hdK.form
  simp only [go_sem, ↓reduceIte, Nat.reduceEqDiff, Nat.reduceLeDiff, Nat.reduceAdd, Nat.reduceMul, Nat.reduceSub, Nat.reduceBEq, Nat.reduceGT, Nat.reduceLT, Int.reduceLE, Int.reduceLT, Int.reduceNeg, reduceCtorEq, ptrOf, clC, Int.reduceEq]
  rw [← hK]
  refine FunI.by (F69 _ d K hdK (by omega)) ?_
  rintro v1 H1 ⟨o1, x1⟩
  simp only [go_sem, ↓reduceIte, Nat.reduceEqDiff, Nat.reduceLeDiff, Nat.reduceAdd, Nat.reduceMul, Nat.reduceSub, Nat.reduceBEq, Nat.reduceGT, Nat.reduceLT, Int.reduceLE, Int.reduceLT, Int.reduceNeg, reduceCtorEq]
  refine RunI.by (append_lit ty34 ty5 rfl (by decide) o1 (ys := [.int .u8 201, .int .u8 202]) (m := 2) rfl rfl (n := d.length + 2) (by simp) (by omega) (by omega) x1.size) ?_
  rintro v2 H2 ⟨o2, gr2, _⟩
  have x2 : Ext K H2 := x1.trans (gr2.upto o1 x1.size)
  obtain ⟨a2, l2, c2, rfl⟩ := Sl.form o2.sl
  have hl2 : d.length + 2 = l2 := by have := Sl.length o2.sl; simpa using this
  subst hl2
  have ox5 := hget_ext x2 bx.o5
  have bx0 := hget_ext x2 bx.b0
  have bx1 := hget_ext x2 bx.b1
  have ox3 := hget_ext x2 bx.o3
  simp only [go_sem, ↓reduceIte, Nat.reduceEqDiff, Nat.reduceLeDiff, Nat.reduceAdd, Nat.reduceMul, Nat.reduceSub, Nat.reduceBEq, Nat.reduceGT, Nat.reduceLT, Int.reduceLE, Int.reduceLT, Int.reduceNeg, reduceCtorEq, Array.size_push, ox5]
  refine DrawnI.at (fun x => x = H.size ∨ x = H.size + 1) ?_
  simp only [go_sem, ↓reduceIte, Nat.reduceEqDiff, Nat.reduceLeDiff, Nat.reduceAdd, Nat.reduceMul, Nat.reduceSub, Nat.reduceBEq, Nat.reduceGT, Nat.reduceLT, Int.reduceLE, Int.reduceLT, Int.reduceNeg, reduceCtorEq, true_or, or_true, Array.size_push, ox5, bx0, bx1, ox3]
  have hc2 : d.length + 2 ≤ c2 := Sl.lecap o2.sl
  have eadd : (if c2 = 0 then a2 else Option.map (fun x => x) a2) = a2 := by split; rfl; cases a2 <;> rfl
  rw [eadd]
  refine ⟨⟨by omega, by omega⟩, ?_⟩
  have cut2 : Own H2 K.size 5 1 (.slice a2 d.length c2) (d.map (.int .u8)) := by
    have := o2.cutL (n := d.length) (by omega)
    rw [List.take_append_of_le_length (by simp), List.take_of_length_le (by simp)] at this
    exact this
  have k82 := k8.ext x2
  obtain ⟨_, _, _, _, _, p⟩ := k82.f
  refine FunI.by (F20 p h8.ok (by omega) n (xs := d) cut2.sl (by omega)) ?_
  rintro _ H3 ⟨rfl, F3, f3, ch3⟩
  have q3 : Kept (fun x => x = H.size ∨ x = H.size + 1) H2 H3 := ch3.kept nF
  obtain ⟨g3, d3⟩ := k82.g.other ch3 fun x hx hf => h8.dis x hf hx
  obtain ⟨_, _, _, _, _, p8⟩ := g3
  have hd3 : Ints H3 5 .u8 (.slice ad d.length cd) d := ints_ch (hdK.ext x2) ch3 fun hne g hg hF => hN g (.inl ⟨hne, hg⟩) ((hU g).2 (.inl hF))
  simp only [go_sem, ↓reduceIte, Nat.reduceEqDiff, Nat.reduceLeDiff, Nat.reduceAdd, Nat.reduceMul, Nat.reduceSub, Nat.reduceBEq, Nat.reduceGT, Nat.reduceLT, Int.reduceLE, Int.reduceLT, Int.reduceNeg, reduceCtorEq]
  refine ⟨q3, ?_⟩
  refine FunI.by (F22 _ _) ?_
  rintro _ _ ⟨rfl, rfl⟩
  simp only [go_sem, ↓reduceIte, Nat.reduceEqDiff, Nat.reduceLeDiff, Nat.reduceAdd, Nat.reduceMul, Nat.reduceSub, Nat.reduceBEq, Nat.reduceGT, Nat.reduceLT, Int.reduceLE, Int.reduceLT, Int.reduceNeg, reduceCtorEq]
  refine ⟨q3, ?_⟩
  have hmo := h8.sim.most
  have hro := h8.ok.room
  have hsu := h8.ok.sum
  have hhe := h8.sim.held h8.ok
  refine FunI.by (F70 p8 (h8.sim.ok h8.ok h8.lim (by omega)) (by omega) (by omega) n hd3 (by omega)) ?_
  rintro _ H4 ⟨rfl, G4, g4, ch4⟩
  simp only [go_sem, ↓reduceIte, Nat.reduceEqDiff, Nat.reduceLeDiff, Nat.reduceAdd, Nat.reduceMul, Nat.reduceSub, Nat.reduceBEq, Nat.reduceGT, Nat.reduceLT, Int.reduceLE, Int.reduceLT, Int.reduceNeg, reduceCtorEq]
  refine ⟨q3.trans (ch4.kept nG), ?_⟩
  obtain ⟨sim1, e1⟩ := h8.sim.append h8.ok n d
  rw [e1]
  have q4 : Kept (fun x => x = H.size ∨ x = H.size + 1) H2 H4 := q3.trans (ch4.kept nG)
  have ox54 := hget_kept q4 (.inr rfl) ox5
  have kb : ∀ g, blk (.slice a2 (d.length + 2) c2) = some g → H4[g]? = H2[g]? := fun g hg => by
    have h1 := o2.blk hg
    have h2 := bx.size
    rw [ch4.get g (Nat.lt_of_lt_of_le h1.2.1 ch3.size) (fun hG => by have := ltG g hG; omega), ch3.get g h1.2.1 (fun hF => by have := ltF g hF; omega)]
  have o4 := o2.keep kb
  have cut4 := cut2.keep fun g hg => kb g (by cases a2 <;> exact hg)
  have hd4 : Ints H4 5 .u8 (.slice ad d.length cd) d := ints_ch hd3 ch4 fun hne g hg hG => hN g (.inl ⟨hne, hg⟩) ((hU g).2 (.inr hG))
  simp only [go_sem, ↓reduceIte, Nat.reduceEqDiff, Nat.reduceLeDiff, Nat.reduceAdd, Nat.reduceMul, Nat.reduceSub, Nat.reduceBEq, Nat.reduceGT, Nat.reduceLT, Int.reduceLE, Int.reduceLT, Int.reduceNeg, reduceCtorEq, ox54, eadd]
  refine ⟨⟨by omega, by omega⟩, ?_⟩
  refine FunIQ.by (F48 _ _ d d H4 cut4.sl hd4 hy.dB hy.dB) ?_
  obtain ⟨gl, ol, rfl⟩ := Sl.at o2.sl (show 0 < d.length + 2 by omega)
  have z0 : (0 : Int) ≤ d.length := by omega
  have z1 : (d.length : Int) < ((d.length + 2 : Nat) : Int) := by omega
  have z2 : (0 : Int) ≤ ((d.length + 1 : Nat) : Int) := by omega
  have z3 : ((d.length + 1 : Nat) : Int) < ((d.length + 2 : Nat) : Int) := by omega
  have w1 : IntKind.i64.wrap ((d.length : Int) + 1) = ((d.length + 1 : Nat) : Int) := by rw [w64_id (by omega) (by omega)]; omega
  have r1 : hget H4 gl (ol + d.length) = some (.int .u8 201) := by rw [Sl.get o4.sl (by omega)]; simp
  have r2 : hget H4 gl (ol + (d.length + 1)) = some (.int .u8 202) := by rw [Sl.get o4.sl (by omega)]; simp
  simp only [go_sem, ↓reduceIte, Nat.reduceEqDiff, Nat.reduceLeDiff, Nat.reduceAdd, Nat.reduceMul, Nat.reduceSub, Nat.reduceBEq, Nat.reduceGT, Nat.reduceLT, Int.reduceLE, Int.reduceLT, Int.reduceNeg, reduceCtorEq, decide_true, z0, z1, z2, z3, w1, Int.toNat_natCast, r1, r2]
  have hgl : K.size ≤ gl ∧ gl < H2.size := ⟨(o2.blk rfl).1, (o2.blk rfl).2.1⟩
  refine LoopI.by mixed (fun ρ H' => ∃ (i : Nat) (vs : List Value), ρ 5 = .slice (some ⟨gl, ol, none⟩) (d.length + 2) c2 ∧ ρ 7 = .bool true ∧ ρ 8 = .bool true ∧ ρ 9 = .int .i64 i ∧ i ≤ d.length + 2 ∧ Own H' K.size 5 1 (.slice (some ⟨gl, ol, none⟩) (d.length + 2) c2) vs ∧ But (some gl) H4 H') (fun ρ _ => d.length + 2 - (iof (ρ 9)).toNat) ?_ ?_
  · exact ⟨0, _, by simp only [go_sem, ↓reduceIte, Nat.reduceEqDiff, Nat.reduceLeDiff, Nat.reduceAdd, Nat.reduceMul, Nat.reduceSub, Nat.reduceBEq, Nat.reduceGT, Nat.reduceLT, Int.reduceLE, Int.reduceLT, Int.reduceNeg, reduceCtorEq], by simp only [go_sem, ↓reduceIte, Nat.reduceEqDiff, Nat.reduceLeDiff, Nat.reduceAdd, Nat.reduceMul, Nat.reduceSub, Nat.reduceBEq, Nat.reduceGT, Nat.reduceLT, Int.reduceLE, Int.reduceLT, Int.reduceNeg, reduceCtorEq], by simp only [go_sem, ↓reduceIte, Nat.reduceEqDiff, Nat.reduceLeDiff, Nat.reduceAdd, Nat.reduceMul, Nat.reduceSub, Nat.reduceBEq, Nat.reduceGT, Nat.reduceLT, Int.reduceLE, Int.reduceLT, Int.reduceNeg, reduceCtorEq], by simp only [go_sem, ↓reduceIte, Nat.reduceEqDiff, Nat.reduceLeDiff, Nat.reduceAdd, Nat.reduceMul, Nat.reduceSub, Nat.reduceBEq, Nat.reduceGT, Nat.reduceLT, Int.reduceLE, Int.reduceLT, Int.reduceNeg, reduceCtorEq] <;> rfl, by omega, o4, ⟨Nat.le_refl _, fun _ _ _ => rfl⟩⟩
  rintro ρ H5 ⟨i, vs, e5, e7, e8, e9, hi, oi, bt⟩
  by_cases hlt : i < d.length + 2
  · obtain ⟨rfl, hcn, oi2, bt2, _⟩ := oi.store hlt (.int .u8 7)
    rw [Nat.zero_add] at hcn oi2 bt2
    have c0 : (0 : Int) ≤ i := by omega
    have c1 : (i : Int) < ((d.length + 2 : Nat) : Int) := by omega
    have w2 : IntKind.i64.wrap ((i : Int) + 1) = ((i + 1 : Nat) : Int) := by rw [w64_id (by omega) (by omega)]; omega
    simp only [go_sem, ↓reduceIte, Nat.reduceEqDiff, Nat.reduceLeDiff, Nat.reduceAdd, Nat.reduceMul, Nat.reduceSub, Nat.reduceBEq, Nat.reduceGT, Nat.reduceLT, Int.reduceLE, Int.reduceLT, Int.reduceNeg, reduceCtorEq, c44_L0, e5, e7, e8, e9, c0, c1, Int.toNat_natCast, hcn, w2]
    exact ⟨rfl, Hold.mk ⟨i + 1, _, by simp only [go_sem, ↓reduceIte, Nat.reduceEqDiff, Nat.reduceLeDiff, Nat.reduceAdd, Nat.reduceMul, Nat.reduceSub, Nat.reduceBEq, Nat.reduceGT, Nat.reduceLT, Int.reduceLE, Int.reduceLT, Int.reduceNeg, reduceCtorEq, e5], by simp only [go_sem, ↓reduceIte, Nat.reduceEqDiff, Nat.reduceLeDiff, Nat.reduceAdd, Nat.reduceMul, Nat.reduceSub, Nat.reduceBEq, Nat.reduceGT, Nat.reduceLT, Int.reduceLE, Int.reduceLT, Int.reduceNeg, reduceCtorEq, e7], by simp only [go_sem, ↓reduceIte, Nat.reduceEqDiff, Nat.reduceLeDiff, Nat.reduceAdd, Nat.reduceMul, Nat.reduceSub, Nat.reduceBEq, Nat.reduceGT, Nat.reduceLT, Int.reduceLE, Int.reduceLT, Int.reduceNeg, reduceCtorEq, e8], by simp only [go_sem, ↓reduceIte, Nat.reduceEqDiff, Nat.reduceLeDiff, Nat.reduceAdd, Nat.reduceMul, Nat.reduceSub, Nat.reduceBEq, Nat.reduceGT, Nat.reduceLT, Int.reduceLE, Int.reduceLT, Int.reduceNeg, reduceCtorEq], by omega, oi2, ⟨Nat.le_trans bt.size bt2.size, fun g hg hne => (bt2.get g (Nat.lt_of_lt_of_le hg bt.size) hne).trans (bt.get g hg hne)⟩⟩, by omega⟩
  · have c1 : ¬ (i : Int) < ((d.length + 2 : Nat) : Int) := by omega
    simp only [go_sem, ↓reduceIte, Nat.reduceEqDiff, Nat.reduceLeDiff, Nat.reduceAdd, Nat.reduceMul, Nat.reduceSub, Nat.reduceBEq, Nat.reduceGT, Nat.reduceLT, Int.reduceLE, Int.reduceLT, Int.reduceNeg, reduceCtorEq, c44_L0, e5, e7, e8, e9, c1]
    have xK : Ext H H2 := bx.ext.trans (x2.mono bx.ext.size)
    obtain ⟨b4, chU⟩ := k82.both xK ch3 f3 ch4 g4 (append_ok h8.ok n hy.dB) (h8.lim.append h8.sim h8.ok n hy.dB) sim1 hU
    have chL : Ch (fun g => g = gl) (fun g => g = gl) H4 H5 := ⟨bt.size, fun _ h => .inl h, fun g hg hn => bt.get g hg fun e => hn (Option.some.inj e)⟩
    have h2s := bx.size
    have hdis : ∀ x, F3 x ∨ G4 x → ¬ (x = gl) := fun x hx e => by
      subst e
      rcases hx with hx | hx
      · rcases ch3.old _ hx with h | h
        · have := ltF _ h; omega
        · omega
      · rcases ch4.old _ hx with h | h
        · have := ltG _ h; omega
        · have := ch3.size; omega
    have := append_ops s n d
    exact ⟨_, ⟨F3, G4, _, _, _, b4.other chL hdis, by omega, fun _ => Iff.rfl⟩, chU.more chL fun x hx => by subst hx; have := bx.ext.size; omega⟩
end
end Go.Proofs.Ytmkheogjnlmkdaa
namespace Go.Proofs.Ytmkheogjnlmkdaa
open Go Go.V
section
variable {H H' : Heap} {U F G : Nat → Prop} {b c : Nat} {s : St} {r : RSt} {φ : Nat → Nat} {m : Int}
set_option maxHeartbeats 3200000 in
theorem plays_10 (y : ClV) (hy : ClOk H y) (hB : B8E H U b c m) (hm : m < 999999999990) (hk : y.x.kind = 10) (hN : ∀ g, (y.x.d ≠ [] ∧ blk y.dv = some g) ∨ (y.x.c ≠ [] ∧ blk y.cv = some g) → ¬ U g) :
    Fun Try.prog 44 #[.agg #[ptrOf b, ptrOf c], .agg (clC y).toArray] H (fun v H' => v = .bool true ∧ ∃ U', B8E H' U' b c (m + 1) ∧ Ch U U' H H') := by
  refine fun_of mixed (args := [_, _]) Try.func44 Try.ntmps44 b44 r44 rfl ?_
  obtain ⟨F, G, φ, s, r, h8, hops, hU⟩ := hB
  have bx0 := bx_new H b c y
  obtain ⟨⟨k, a, e, n, t, d, cu, o⟩, dv, cv⟩ := y
  simp only at hk
  subst hk
  have ltF := h8.lt.1
  have ltG := h8.lt.2
  obtain ⟨K, hK⟩ : ∃ K, K = (H.push (.cells #[.pointer (some ⟨b, 0, none⟩), .pointer (some ⟨c, 0, none⟩)] 51)).push (.cells #[.int .i64 10, .int .i64 a, .int .i64 e, .string n, .string t, dv, cv, .bool o] 75) := ⟨_, rfl⟩
  have bx : Bx H K b c ⟨⟨10, a, e, n, t, d, cu, o⟩, dv, cv⟩ := by rw [hK]; exact bx0
  clear bx0
  have k8 := h8.ext bx.ext
  have nF : ∀ x, (x = H.size ∨ x = H.size + 1) → ¬ F x := fun x hx hf => by have := ltF x hf; omega
  have nG : ∀ x, (x = H.size ∨ x = H.size + 1) → ¬ G x := fun x hx hf => by have := ltG x hf; omega
  have dl : cu.length ≤ 17592186043904 := hy.cL
  have hdK : Ints K 3 .i64 cv cu := hy.c.ext bx.ext
  obtain ⟨ad, cd, rfl⟩ := hdK.form
  simp only [go_sem, ↓reduceIte, Nat.reduceEqDiff, Nat.reduceLeDiff, Nat.reduceAdd, Nat.reduceMul, Nat.reduceSub, Nat.reduceBEq, Nat.reduceGT, Nat.reduceLT, Int.reduceLE, Int.reduceLT, Int.reduceNeg, reduceCtorEq, ptrOf, clC, Int.reduceEq]
  rw [← hK]
  refine FunI.by (F78 _ cu K hdK (by omega)) ?_
  rintro v1 H1 ⟨o1, x1⟩
  simp only [go_sem, ↓reduceIte, Nat.reduceEqDiff, Nat.reduceLeDiff, Nat.reduceAdd, Nat.reduceMul, Nat.reduceSub, Nat.reduceBEq, Nat.reduceGT, Nat.reduceLT, Int.reduceLE, Int.reduceLT, Int.reduceNeg, reduceCtorEq]
  refine RunI.by (append_lit ty62 ty3 rfl (by decide) o1 (ys := [.int .i64 1099511627776, .int .i64 1099511627776]) (m := 2) rfl rfl (n := cu.length + 2) (by simp) (by omega) (by omega) x1.size) ?_
  rintro v2 H2 ⟨o2, gr2, _⟩
  have x2 : Ext K H2 := x1.trans (gr2.upto o1 x1.size)
  obtain ⟨a2, l2, c2, rfl⟩ := Sl.form o2.sl
  have hl2 : cu.length + 2 = l2 := by have := Sl.length o2.sl; simpa using this
  subst hl2
  have ox6 := hget_ext x2 bx.o6
  have ox1 := hget_ext x2 bx.o1
  have bx0 := hget_ext x2 bx.b0
  have bx1 := hget_ext x2 bx.b1
  have hc2 : cu.length + 2 ≤ c2 := Sl.lecap o2.sl
  obtain ⟨gl, ol, rfl⟩ := Sl.at o2.sl (show 0 < cu.length + 2 by omega)
  have eadd : (if c2 = 0 then some (⟨gl, ol, none⟩ : Addr) else Option.map (fun x => x) (some ⟨gl, ol, none⟩)) = some ⟨gl, ol, none⟩ := by split <;> rfl
  have z0 : (0 : Int) ≤ cu.length := by omega
  have z9 : (cu.length : Int) ≤ c2 := by omega
  have cut2 : Own H2 K.size 3 1 (.slice (some ⟨gl, ol, none⟩) cu.length c2) (cu.map (.int .i64)) := by
    have := o2.cutL (n := cu.length) (by omega)
    rw [List.take_append_of_le_length (by simp), List.take_of_length_le (by simp)] at this
    exact this
  simp only [go_sem, ↓reduceIte, Nat.reduceEqDiff, Nat.reduceLeDiff, Nat.reduceAdd, Nat.reduceMul, Nat.reduceSub, Nat.reduceBEq, Nat.reduceGT, Nat.reduceLT, Int.reduceLE, Int.reduceLT, Int.reduceNeg, reduceCtorEq, Array.size_push, ox6, ox1, bx0, bx1, z0, z9]
  have k82 := k8.ext x2
  have hgl : K.size ≤ gl ∧ gl < H2.size := ⟨(o2.blk rfl).1, (o2.blk rfl).2.1⟩
  have h2s := bx.size
  obtain ⟨_, _, _, _, _, p⟩ := k82.f
  refine FunI.by (F25 p h8.ok (by omega) a cut2.sl fun _ g hg hF => by
    simp only [blk, Option.some.injEq] at hg
    have := ltF g hF; omega) ?_
  rintro _ H3 ⟨ns, F3, hns, f3, ch3⟩
  have q3 : Kept (fun x => x = H.size ∨ x = H.size + 1) H2 H3 := ch3.kept nF
  obtain ⟨g3, d3⟩ := k82.g.other ch3 fun x hx hf => h8.dis x hf hx
  obtain ⟨_, _, _, _, _, p8⟩ := g3
  have hd3 : Ints H3 3 .i64 (.slice ad cu.length cd) cu := ints_ch (hdK.ext x2) ch3 fun hne g hg hF => hN g (.inr ⟨hne, hg⟩) ((hU g).2 (.inl hF))
  have bx13 := hget_kept q3 (.inl rfl) bx1
  have ox13 := hget_kept q3 (.inr rfl) ox1
  have ox63 := hget_kept q3 (.inr rfl) ox6
  simp only [go_sem, ↓reduceIte, Nat.reduceEqDiff, Nat.reduceLeDiff, Nat.reduceAdd, Nat.reduceMul, Nat.reduceSub, Nat.reduceBEq, Nat.reduceGT, Nat.reduceLT, Int.reduceLE, Int.reduceLT, Int.reduceNeg, reduceCtorEq, Array.size_push, bx13, ox13, ox63]
  refine FunI.by (F79 p8 (h8.sim.ok h8.ok h8.lim (by omega)) a hd3) ?_
  rintro _ H4 ⟨G4, g4, ch4⟩
  have q4 : Kept (fun x => x = H.size ∨ x = H.size + 1) H2 H4 := q3.trans (ch4.kept nG)
  have ox64 := hget_kept q4 (.inr rfl) ox6
  have kb : ∀ g, blk (.slice (some ⟨gl, ol, none⟩) (cu.length + 2) c2) = some g → H4[g]? = H2[g]? := fun g hg => by
    have h1 := o2.blk hg
    rw [ch4.get g (Nat.lt_of_lt_of_le h1.2.1 ch3.size) (fun hG => by have := ltG g hG; omega), ch3.get g h1.2.1 (fun hF => by have := ltF g hF; omega)]
  have o4 := o2.keep kb
  have cut4 := cut2.keep fun g hg => kb g hg
  have hd4 : Ints H4 3 .i64 (.slice ad cu.length cd) cu := ints_ch hd3 ch4 fun hne g hg hG => hN g (.inr ⟨hne, hg⟩) ((hU g).2 (.inr hG))
  have z1 : (cu.length : Int) < ((cu.length + 2 : Nat) : Int) := by omega
  have z2 : (0 : Int) ≤ ((cu.length + 1 : Nat) : Int) := by omega
  have z3 : ((cu.length + 1 : Nat) : Int) < ((cu.length + 2 : Nat) : Int) := by omega
  have w1 : IntKind.i64.wrap ((cu.length : Int) + 1) = ((cu.length + 1 : Nat) : Int) := by rw [w64_id (by omega) (by omega)]; omega
  have r1 : hget H4 gl (ol + cu.length) = some (.int .i64 1099511627776) := by rw [Sl.get o4.sl (by omega)]; simp
  have r2 : hget H4 gl (ol + (cu.length + 1)) = some (.int .i64 1099511627776) := by rw [Sl.get o4.sl (by omega)]; simp
  simp only [go_sem, ↓reduceIte, Nat.reduceEqDiff, Nat.reduceLeDiff, Nat.reduceAdd, Nat.reduceMul, Nat.reduceSub, Nat.reduceBEq, Nat.reduceGT, Nat.reduceLT, Int.reduceLE, Int.reduceLT, Int.reduceNeg, reduceCtorEq, Array.size_push, ox64, z0, z9]
  refine FunI.by (F80 _ _ cu cu H4 cut4.sl hd4 (by omega)) ?_
  rintro _ _ ⟨rfl, rfl⟩
  have e2 : hgets H4 H.size 0 2 = some [.pointer (some ⟨b, 0, none⟩), .pointer (some ⟨c, 0, none⟩)] := hgets_of rfl fun j hj => by
    match j, hj with
    | 0, _ => exact hget_kept q4 (.inl rfl) bx0
    | 1, _ => exact hget_kept q4 (.inl rfl) bx1
  simp only [go_sem, ↓reduceIte, Nat.reduceEqDiff, Nat.reduceLeDiff, Nat.reduceAdd, Nat.reduceMul, Nat.reduceSub, Nat.reduceBEq, Nat.reduceGT, Nat.reduceLT, Int.reduceLE, Int.reduceLT, Int.reduceNeg, reduceCtorEq, decide_true, z0, z1, z2, z3, w1, Int.toNat_natCast, r1, r2, ext_refl, e2]
  obtain ⟨φ', sim1⟩ := h8.sim.crash h8.ok a cu hns
  have ok1 := crash_ok h8.ok a cu ns
  have lim1 := Lim.crash h8.sim h8.lim h8.ok a cu
  have hop1 := crash_keeps s a cu ns
  have xK : Ext H H2 := bx.ext.trans (x2.mono bx.ext.size)
  obtain ⟨b4, chU⟩ := k82.both xK ch3 f3 ch4 g4 ok1 lim1 sim1 hU
  refine FunI.by (F27 b4.f ok1 (by omega) b4.g (sim1.ok ok1 lim1 (by omega)) (sim1.tells ok1)) ?_
  rintro _ H5 ⟨rfl, x5⟩
  simp only [go_sem, ↓reduceIte, Nat.reduceEqDiff, Nat.reduceLeDiff, Nat.reduceAdd, Nat.reduceMul, Nat.reduceSub, Nat.reduceBEq, Nat.reduceGT, Nat.reduceLT, Int.reduceLE, Int.reduceLT, Int.reduceNeg, reduceCtorEq]
  exact ⟨_, ⟨F3, G4, _, _, _, b4.ext x5, by omega, fun _ => Iff.rfl⟩, chU.trans (Ch.ext x5)⟩
end
end Go.Proofs.Ytmkheogjnlmkdaa
