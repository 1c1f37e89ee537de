/- FsPlays: any calls at two file systems. -/
import Derived.Test.YtmkheogjnlmkdaaVPlayA
import Derived.Test.YtmkheogjnlmkdaaVPlayG
import Derived.Test.YtmkheogjnlmkdaaVFlF
import Derived.Test.YtmkheogjnlmkdaaVCodeL
set_option linter.unusedSimpArgs false
set_option linter.unusedVariables false
set_option maxRecDepth 20000
namespace Go.Proofs.Ytmkheogjnlmkdaa
open Go Go.V
-- 10: pith/pithlaw8.FsPlays
-- 44: (pith/pithlaw8.both).plays
-- 27: (pith/pithlaw8.both).tells
-- 43: pith/pithlaw8.fits
-- 11: pith/pithlaw8.first
-- 12: pith/fs.New
-- 26: pith/pithref8.New
-- 51: pithlaw8.both
-- 75: pithlaw8.Op
-- 73: []pithlaw8.Op
-- 5: uint8
section
variable {H H' H0 : Heap} {U U' Ux Uy : Nat → Prop} {b c X Y : Nat} {m m' : Int} {p q p' q' : Value}
theorem B8E.lt (h : B8E H U b c m) : ∀ g, U g → g < H.size := fun g hg => by
  obtain ⟨F, G, _, _, _, h8, _, hU⟩ := h
  rcases (hU g).1 hg with hg | hg
  · exact h8.lt.1 g hg
  · exact h8.lt.2 g hg
theorem B8E.ext (h : B8E H U b c m) (x : Ext H H') : B8E H' U b c m := by
  obtain ⟨F, G, φ, s, r, h8, ho, hU⟩ := h
  exact ⟨F, G, φ, s, r, h8.ext x, ho, hU⟩
theorem B8E.mono (h : B8E H U b c m) (hm : m ≤ m') : B8E H U b c m' := by
  obtain ⟨F, G, φ, s, r, h8, ho, hU⟩ := h
  exact ⟨F, G, φ, s, r, h8, by omega, hU⟩
theorem B8E.other {V V' : Nat → Prop} (h : B8E H U b c m) (k : Ch V V' H H') (hd : ∀ g, U g → ¬ V g) : B8E H' U b c m := by
  obtain ⟨F, G, φ, s, r, h8, ho, hU⟩ := h
  exact ⟨F, G, φ, s, r, h8.other k fun x hx => hd x ((hU x).2 hx), ho, hU⟩
theorem F44 (y : ClV) (hy : ClOk H y) (hB : B8E H U b c m) (hN : ∀ g, (y.x.d ≠ [] ∧ blk y.dv = some g) ∨ (y.x.c ≠ [] ∧ blk y.cv = some g) → ¬ U g) (hfit : y.x.d.length ≤ 16384) (hm : m < 999999999990) :
    Fun Try.prog 44 #[.agg #[ptrOf b, ptrOf c], .agg (clC y).toArray] H (fun v H' => v = .bool true ∧ ∃ U', B8E H' U' b c (m + 1) ∧ Ch U U' H H') := by
  by_cases k1 : y.x.kind = 1
  · exact plays_1 y hy hB hm k1
  by_cases k2 : y.x.kind = 2
  · exact plays_2 y hy hB hm k2 hN hfit
  by_cases k3 : y.x.kind = 3
  · exact plays_3 y hy hB hm k3
  by_cases k4 : y.x.kind = 4
  · exact plays_4 y hy hB hm k4
  by_cases k5 : y.x.kind = 5
  · exact plays_5 y hy hB hm k5
  by_cases k6 : y.x.kind = 6
  · exact plays_6 y hy hB hm k6
  by_cases k7 : y.x.kind = 7
  · exact plays_7 y hy hB hm k7
  by_cases k8 : y.x.kind = 8
  · exact plays_8 y hy hB hm k8
  by_cases k9 : y.x.kind = 9
  · exact plays_9 y hy hB hm k9
  by_cases k10 : y.x.kind = 10
  · exact plays_10 y hy hB hm k10 hN
  by_cases k11 : y.x.kind = 11
  · exact plays_11 y hy hB hm k11
  by_cases k12 : y.x.kind = 12
  · exact plays_12 y hy hB hm k12
  refine fun_of mixed (args := [_, _]) Try.func44 Try.ntmps44 b44 r44 rfl ?_
  have bx := (bx_new H b c y).ext
  obtain ⟨⟨k, a, e, n, t, d, cu, o⟩, dv, cv⟩ := y
  simp only at k1 k2 k3 k4 k5 k6 k7 k8 k9 k10 k11 k12
  simp only [go_sem, ↓reduceIte, Nat.reduceEqDiff, Nat.reduceLeDiff, Nat.reduceAdd, Nat.reduceMul, Nat.reduceSub, Nat.reduceBEq, Nat.reduceGT, Nat.reduceLT, Int.reduceLE, Int.reduceLT, Int.reduceNeg, reduceCtorEq, ptrOf, clC, k1, k2, k3, k4, k5, k6, k7, k8, k9, k10, k11, k12]
  exact ⟨U, (hB.ext bx).mono (by omega), Ch.ext bx⟩
def fitsB (x : Cl) : Bool := decide (x.d.length ≤ 16384) && decide (x.n.size ≤ 16384) && decide (x.t.size ≤ 16384)
theorem F43 (y : ClV) (hy : ClOk H y) : Fun Try.prog 43 #[.agg (clC y).toArray] H (fun v H' => v = .bool (fitsB y.x) ∧ Ext H H') := by
  refine fun_of mixed (args := [_]) Try.func43 Try.ntmps43 b43 r43 rfl ?_
  obtain ⟨⟨k, a, e, n, t, d, cu, o⟩, dv, cv⟩ := y
  have hyd : Ints H 5 .u8 dv d := hy.d
  obtain ⟨ad, cd, rfl⟩ := hyd.form
  have x0 : Ext H (H.push (.cells #[.int .i64 k, .int .i64 a, .int .i64 e, .string n, .string t, .slice ad d.length cd, cv, .bool o] 75)) := Ext.push _
  unfold fitsB
  by_cases c1 : d.length ≤ 16384
  · have d1 : (d.length : Int) ≤ 16384 := by omega
    by_cases c2 : n.size ≤ 16384
    · have d2 : (n.size : Int) ≤ 16384 := by omega
      by_cases c3 : t.size ≤ 16384
      · have d3 : (t.size : Int) ≤ 16384 := by omega
        simp only [go_sem, ↓reduceIte, Nat.reduceEqDiff, Nat.reduceLeDiff, Nat.reduceAdd, Nat.reduceMul, Nat.reduceSub, Nat.reduceBEq, Nat.reduceGT, Nat.reduceLT, Int.reduceLE, Int.reduceLT, Int.reduceNeg, reduceCtorEq, clC, c1, c2, c3, d1, d2, d3, decide_true, Bool.and_self]
        exact x0
      · have d3 : ¬ (t.size : Int) ≤ 16384 := by omega
        simp only [go_sem, ↓reduceIte, Nat.reduceEqDiff, Nat.reduceLeDiff, Nat.reduceAdd, Nat.reduceMul, Nat.reduceSub, Nat.reduceBEq, Nat.reduceGT, Nat.reduceLT, Int.reduceLE, Int.reduceLT, Int.reduceNeg, reduceCtorEq, clC, c1, c2, c3, d1, d2, d3, decide_true, decide_false, Bool.and_self, Bool.and_false]
        exact x0
    · have d2 : ¬ (n.size : Int) ≤ 16384 := by omega
      simp only [go_sem, ↓reduceIte, Nat.reduceEqDiff, Nat.reduceLeDiff, Nat.reduceAdd, Nat.reduceMul, Nat.reduceSub, Nat.reduceBEq, Nat.reduceGT, Nat.reduceLT, Int.reduceLE, Int.reduceLT, Int.reduceNeg, reduceCtorEq, clC, c1, c2, d1, d2, decide_true, decide_false, Bool.and_self, Bool.and_false, Bool.false_and]
      exact x0
  · have d1 : ¬ (d.length : Int) ≤ 16384 := by omega
    simp only [go_sem, ↓reduceIte, Nat.reduceEqDiff, Nat.reduceLeDiff, Nat.reduceAdd, Nat.reduceMul, Nat.reduceSub, Nat.reduceBEq, Nat.reduceGT, Nat.reduceLT, Int.reduceLE, Int.reduceLT, Int.reduceNeg, reduceCtorEq, clC, c1, d1, decide_true, decide_false, Bool.and_self, Bool.and_false, Bool.false_and]
    exact x0
/-- A pair: both are nil, or both are there and alike. -/
def P8 (H : Heap) (U : Nat → Prop) (p q : Value) (m : Int) : Prop := (p = .pointer none ∧ q = .pointer none ∧ ∀ g, ¬ U g) ∨ ∃ b c, p = ptrOf b ∧ q = ptrOf c ∧ B8E H U b c m
theorem P8.ext (h : P8 H U p q m) (x : Ext H H') : P8 H' U p q m := h.imp_right fun ⟨b, c, e1, e2, h⟩ => ⟨b, c, e1, e2, h.ext x⟩
theorem P8.mono (h : P8 H U p q m) (hm : m ≤ m') : P8 H U p q m' := h.imp_right fun ⟨b, c, e1, e2, h⟩ => ⟨b, c, e1, e2, h.mono hm⟩
theorem P8.other {V V' : Nat → Prop} (h : P8 H U p q m) (k : Ch V V' H H') (hd : ∀ g, U g → ¬ V g) : P8 H' U p q m := h.imp_right fun ⟨b, c, e1, e2, h⟩ => ⟨b, c, e1, e2, h.other k hd⟩
theorem P8.lt (h : P8 H U p q m) : ∀ g, U g → g < H.size := fun g hg => by
  rcases h with ⟨_, _, h⟩ | ⟨_, _, _, _, h⟩
  · exact absurd hg (h g)
  · exact h.lt g hg
theorem P8.one (h : P8 H U p q m) : p.oneCell' = true ∧ q.oneCell' = true := by
  rcases h with ⟨rfl, rfl, _⟩ | ⟨_, _, rfl, rfl, _⟩ <;> exact ⟨rfl, rfl⟩
structure T8 (H0 H : Heap) (Ux Uy : Nat → Prop) (X Y : Nat) (p q p' q' : Value) (m : Int) : Prop where
  ext : Ext H0 H
  kx : H[X]? = some (.cells #[p, q] 51)
  ky : H[Y]? = some (.cells #[p', q'] 51)
  px : P8 H Ux p q m
  py : P8 H Uy p' q' m
  dis : ∀ g, Ux g → ¬ Uy g
  nx : ∀ g, Ux g → H0.size ≤ g ∧ g ≠ X ∧ g ≠ Y
  ny : ∀ g, Uy g → H0.size ≤ g ∧ g ≠ X ∧ g ≠ Y
theorem T8.lt (h : T8 H0 H Ux Uy X Y p q p' q' m) : X < H.size ∧ Y < H.size := ⟨(Array.getElem?_eq_some_iff.1 h.kx).1, (Array.getElem?_eq_some_iff.1 h.ky).1⟩
theorem T8.x (h : T8 H0 H Ux Uy X Y p q p' q' m) (x : Ext H H') : T8 H0 H' Ux Uy X Y p q p' q' m :=
  ⟨h.ext.trans (x.mono h.ext.size), by rw [x.get _ h.lt.1]; exact h.kx, by rw [x.get _ h.lt.2]; exact h.ky, h.px.ext x, h.py.ext x, h.dis, h.nx, h.ny⟩
theorem T8.mono (h : T8 H0 H Ux Uy X Y p q p' q' m) (hm : m ≤ m') : T8 H0 H Ux Uy X Y p q p' q' m' := ⟨h.ext, h.kx, h.ky, h.px.mono hm, h.py.mono hm, h.dis, h.nx, h.ny⟩
theorem T8.playX (h : T8 H0 H Ux Uy X Y (ptrOf b) (ptrOf c) p' q' m) (k : Ch Ux U' H H') (hb : B8E H' U' b c (m + 1)) : T8 H0 H' U' Uy X Y (ptrOf b) (ptrOf c) p' q' (m + 1) := by
  have hlt := h.lt
  have hs := h.ext.size
  refine ⟨⟨Nat.le_trans hs k.size, fun g hg => (k.get g (Nat.lt_of_lt_of_le hg hs) fun hf => by have := (h.nx g hf).1; omega).trans (h.ext.get g hg)⟩, ?_, ?_, .inr ⟨b, c, rfl, rfl, hb⟩, (h.py.other k fun g hg hf => h.dis g hf hg).mono (by omega), fun g hg hy => ?_, fun g hg => ?_, h.ny⟩
  · rw [k.get _ hlt.1 fun hf => (h.nx X hf).2.1 rfl]; exact h.kx
  · rw [k.get _ hlt.2 fun hf => (h.nx Y hf).2.2 rfl]; exact h.ky
  · rcases k.old g hg with e | e
    · exact h.dis g e hy
    · have := h.py.lt g hy; omega
  · rcases k.old g hg with e | e
    · exact h.nx g e
    · exact ⟨by omega, by omega, by omega⟩
theorem T8.playY (h : T8 H0 H Ux Uy X Y p q (ptrOf b) (ptrOf c) m) (k : Ch Uy U' H H') (hb : B8E H' U' b c (m + 1)) : T8 H0 H' Ux U' X Y p q (ptrOf b) (ptrOf c) (m + 1) := by
  have hlt := h.lt
  have hs := h.ext.size
  refine ⟨⟨Nat.le_trans hs k.size, fun g hg => (k.get g (Nat.lt_of_lt_of_le hg hs) fun hf => by have := (h.ny g hf).1; omega).trans (h.ext.get g hg)⟩, ?_, ?_, (h.px.other k h.dis).mono (by omega), .inr ⟨b, c, rfl, rfl, hb⟩, fun g hg hy => ?_, h.nx, fun g hg => ?_⟩
  · rw [k.get _ hlt.1 fun hf => (h.ny X hf).2.1 rfl]; exact h.kx
  · rw [k.get _ hlt.2 fun hf => (h.ny Y hf).2.2 rfl]; exact h.ky
  · rcases k.old g hy with e | e
    · exact h.dis g hg e
    · have := h.px.lt g hg; omega
  · rcases k.old g hg with e | e
    · exact h.ny g e
    · exact ⟨by omega, by omega, by omega⟩
theorem fresh_sim (room : Int) : Sim8 (fun f => f) (freshS room) (freshR room) :=
  ⟨rfl, rfl, rfl, rfl, fun f hf => by simp [freshS] at hf, fun f hf => by simp [freshS] at hf, rfl, ⟨[fun _ => none], rfl, rfl, rfl, ⟨⟨List.Pairwise.nil, fun n k => by simp⟩, trivial⟩, (fun D hD n f hn => by
    simp only [List.mem_singleton] at hD
    subst hD; cases hn), fun f hf => by simp [freshS] at hf⟩⟩
theorem fresh_lim (room : Int) : Lim (freshR room) :=
  ⟨fun es he => by simp [freshR] at he; subst he; simp [freshR], by simp [freshR], fun d hd => by simp [freshR] at hd⟩
/-- What both makings of a file system give. -/
theorem new_p8 {room : Int} {H1 H2 H3 : Heap} {v w : Value} (x1 : Ext H1 H2) (x2 : Ext H2 H3) (h1 : if room < 0 ∨ 2147483647 < room then v = .pointer none else ∃ b F, v = ptrOf b ∧ FsH H2 F b (freshS room) ∧ ∀ g, F g → H1.size ≤ g)
    (h2 : if room < 0 ∨ 2147483647 < room then w = .pointer none else ∃ b F, w = ptrOf b ∧ RFsH H3 F b (freshR room) ∧ ∀ g, F g → H2.size ≤ g) : ∃ U, P8 H3 U v w 0 ∧ ∀ g, U g → H1.size ≤ g := by
  by_cases hr : room < 0 ∨ 2147483647 < room
  · rw [if_pos hr] at h1 h2
    exact ⟨fun _ => False, .inl ⟨h1, h2, fun _ h => h⟩, fun _ h => h.elim⟩
  · rw [if_neg hr] at h1 h2
    obtain ⟨b, F, rfl, f, nF⟩ := h1
    obtain ⟨c, G, rfl, g, nG⟩ := h2
    have ltF : ∀ x, F x → x < H2.size := by obtain ⟨_, _, _, _, _, p⟩ := f; exact p.lt
    refine ⟨fun x => F x ∨ G x, .inr ⟨b, c, rfl, rfl, F, G, _, _, _, ⟨f.ext x2, g, fun x hx hg => ?_, fresh_ok (by omega), fresh_lim room, fresh_sim room⟩, Int.le_refl _, fun _ => Iff.rfl⟩, fun x hx => ?_⟩
    · have := ltF x hx; have := nG x hg; omega
    · rcases hx with hx | hx
      · exact nF x hx
      · exact Nat.le_trans x1.size (nG x hx)
/-- A box of two pointers, made and filled. -/
theorem box_two (H : Heap) (p q : Value) : hcan (H.push (.cells #[.pointer none, .pointer none] 51)) H.size 0 2 ∧ Ext H (hput (H.push (.cells #[.pointer none, .pointer none] 51)) H.size 0 [p, q]) ∧
    (hput (H.push (.cells #[.pointer none, .pointer none] 51)) H.size 0 [p, q])[H.size]? = some (.cells #[p, q] 51) ∧ (hput (H.push (.cells #[.pointer none, .pointer none] 51)) H.size 0 [p, q]).size = H.size + 1 := by
  have y0 : (H.push (.cells #[.pointer none, .pointer none] 51))[H.size]? = some (.cells #[.pointer none, .pointer none] 51) := push_new
  exact ⟨hcan_of y0 (by simp), (Ext.push _).hput (Nat.le_refl _), by rw [hput_same y0]; rfl, by rw [hput_size]; simp⟩
end
end Go.Proofs.Ytmkheogjnlmkdaa
namespace Go.Proofs.Ytmkheogjnlmkdaa
open Go Go.V
theorem T8.g {H0 H : Heap} {Ux Uy : Nat → Prop} {X Y : Nat} {p q p' q' : Value} {m : Int} (h : T8 H0 H Ux Uy X Y p q p' q' m) : hget H X 0 = some p ∧ hget H X 1 = some q ∧ hget H Y 0 = some p' ∧ hget H Y 1 = some q' := by
  simp only [hget_cells h.kx, hget_cells h.ky]
  exact ⟨rfl, rfl, rfl, rfl⟩
theorem ints_lt {H : Heap} {e : TypeId} {k : IntKind} {v : Value} {xs : List Int} (h : Ints H e k v xs) (hne : xs ≠ []) {g : Nat} (hg : blk v = some g) : g < H.size := by
  have hp := List.length_pos_iff.2 hne
  obtain ⟨a, c, rfl⟩ := h.form
  obtain ⟨b, o, rfl⟩ := h.at hp
  simp only [blk, Option.some.injEq] at hg
  subst hg
  exact (Sl.lt h hp).1
set_option maxHeartbeats 12800000 in
theorem F10 (room other : Int) (v : Value) (ls : List ClV) (H : Heap) (hv : Cls H v ls) : Fun Try.prog 10 #[.int .i64 room, .int .i64 other, v] H (fun r H' => r = .bool true ∧ Ext H H') := by
  obtain ⟨al, cl, rfl⟩ := cls_form hv
  refine fun_of mixed (args := [_, _, _]) Try.func10 Try.ntmps10 b10 r10 rfl ?_
  simp only [go_sem, ↓reduceIte, Nat.reduceEqDiff, Nat.reduceLeDiff, Nat.reduceAdd, Nat.reduceMul, Nat.reduceSub, Nat.reduceBEq, Nat.reduceGT, Nat.reduceLT, Int.reduceLE, Int.reduceLT, Int.reduceNeg, reduceCtorEq]
  refine FunI.by (F11 H) ?_
  rintro _ H1 ⟨rfl, x1⟩
  simp only [go_sem, ↓reduceIte, Nat.reduceEqDiff, Nat.reduceLeDiff, Nat.reduceAdd, Nat.reduceMul, Nat.reduceSub, Nat.reduceBEq, Nat.reduceGT, Nat.reduceLT, Int.reduceLE, Int.reduceLT, Int.reduceNeg, reduceCtorEq]
  refine FunI.by (F12 room H1 trivial) ?_
  rintro v2 H2 ⟨x2, hv2⟩
  simp only [go_sem, ↓reduceIte, Nat.reduceEqDiff, Nat.reduceLeDiff, Nat.reduceAdd, Nat.reduceMul, Nat.reduceSub, Nat.reduceBEq, Nat.reduceGT, Nat.reduceLT, Int.reduceLE, Int.reduceLT, Int.reduceNeg, reduceCtorEq]
  refine FunI.by (F26 room H2) ?_
  rintro v3 H3 ⟨x3, hv3⟩
  obtain ⟨Ux, px, nx⟩ := new_p8 x2 x3 hv2 hv3
  have x13 : Ext H H3 := x1.trans ((x2.trans (x3.mono x2.size)).mono x1.size)
  have nx0 : ∀ g, Ux g → H.size ≤ g := fun g hg => Nat.le_trans x1.size (nx g hg)
  obtain ⟨bc, bxt, bk, bs⟩ := box_two H3 v2 v3
  obtain ⟨K1, hK1⟩ : ∃ K, K = hput (H3.push (.cells #[.pointer none, .pointer none] 51)) H3.size 0 [v2, v3] := ⟨_, rfl⟩
  rw [← hK1] at bxt bk bs
  clear hv2 hv3 x1 x2 x3 nx
  have px' := px
  rcases px' with ⟨rfl, rfl, _⟩ | ⟨b, c, rfl, rfl, _⟩
  all_goals
    try simp only [ptrOf] at hK1
    simp only [go_sem, ↓reduceIte, Nat.reduceEqDiff, Nat.reduceLeDiff, Nat.reduceAdd, Nat.reduceMul, Nat.reduceSub, Nat.reduceBEq, Nat.reduceGT, Nat.reduceLT, Int.reduceLE, Int.reduceLT, Int.reduceNeg, reduceCtorEq, ptrOf, bc]
    refine ⟨rfl, ?_⟩
    rw [← hK1]
    clear hK1
    refine FunI.by (F12 other K1 trivial) ?_
    rintro v5 H5 ⟨x5, hv5⟩
    simp only [go_sem, ↓reduceIte, Nat.reduceEqDiff, Nat.reduceLeDiff, Nat.reduceAdd, Nat.reduceMul, Nat.reduceSub, Nat.reduceBEq, Nat.reduceGT, Nat.reduceLT, Int.reduceLE, Int.reduceLT, Int.reduceNeg, reduceCtorEq]
    refine FunI.by (F26 other H5) ?_
    rintro v6 H6 ⟨x6, hv6⟩
    obtain ⟨Uy, py, ny⟩ := new_p8 x5 x6 hv5 hv6
    have x16 : Ext K1 H6 := x5.trans (x6.mono x5.size)
    obtain ⟨bc', bxt', bk', bs'⟩ := box_two H6 v5 v6
    obtain ⟨K2, hK2⟩ : ∃ K, K = hput (H6.push (.cells #[.pointer none, .pointer none] 51)) H6.size 0 [v5, v6] := ⟨_, rfl⟩
    rw [← hK2] at bxt' bk' bs'
    have ltx := px.lt
    have lty := py.lt
    have s16 := x16.size
    have s13 := x13.size
    have t0 : T8 H K2 Ux Uy H3.size H6.size _ _ v5 v6 0 := ⟨(x13.trans (bxt.mono s13)).trans ((x16.trans (bxt'.mono s16)).mono (Nat.le_trans s13 bxt.size)), by rw [bxt'.get _ (by omega), x16.get _ (by omega)]; exact bk, bk', px.ext (bxt.trans ((x16.trans (bxt'.mono s16)).mono bxt.size)), py.ext bxt',
      fun g hg hy => by have := ltx g hg; have := ny g hy; omega, fun g hg => ⟨nx0 g hg, by have := ltx g hg; omega, by have := ltx g hg; omega⟩, fun g hg => ⟨by have := ny g hg; omega, by have := ny g hg; omega, by have := lty g hg; omega⟩⟩
    have py' := py
    clear hv5 hv6
    rcases py' with ⟨rfl, rfl, _⟩ | ⟨b', c', rfl, rfl, _⟩
  all_goals
    try simp only [ptrOf] at hK2
    obtain ⟨g0, g1, g2, g3⟩ := t0.g
    try simp only [ptrOf] at g0 g1
    try simp only [ptrOf] at g2 g3
    simp only [go_sem, ↓reduceIte, Nat.reduceEqDiff, Nat.reduceLeDiff, Nat.reduceAdd, Nat.reduceMul, Nat.reduceSub, Nat.reduceBEq, Nat.reduceGT, Nat.reduceLT, Int.reduceLE, Int.reduceLT, Int.reduceNeg, reduceCtorEq, ptrOf, bc']
    refine ⟨rfl, ?_⟩
    rw [← hK2]
    simp only [go_sem, ↓reduceIte, Nat.reduceEqDiff, Nat.reduceLeDiff, Nat.reduceAdd, Nat.reduceMul, Nat.reduceSub, Nat.reduceBEq, Nat.reduceGT, Nat.reduceLT, Int.reduceLE, Int.reduceLT, Int.reduceNeg, reduceCtorEq, g0, g1, g2, g3]
  all_goals
    have hXY : H3.size < K2.size ∧ H6.size < K2.size := t0.lt
    refine LoopI.by mixed (fun ρ H' => ∃ (i : Nat) (Ux Uy : Nat → Prop) (p q p' q' : Value), ρ 2 = .slice al ls.length cl ∧ ρ 8 = .pointer (some ⟨H3.size, 0, none⟩) ∧ ρ 9 = .pointer (some ⟨H6.size, 0, none⟩) ∧ ρ 10 = .int .i64 i ∧ i ≤ ls.length ∧ i ≤ 400 ∧ T8 H H' Ux Uy H3.size H6.size p q p' q' i) (fun ρ _ => ls.length - (iof (ρ 10)).toNat) ?_ ?_
    · exact ⟨0, Ux, Uy, _, _, _, _, by simp only [go_sem, ↓reduceIte, Nat.reduceEqDiff, Nat.reduceLeDiff, Nat.reduceAdd, Nat.reduceMul, Nat.reduceSub, Nat.reduceBEq, Nat.reduceGT, Nat.reduceLT, Int.reduceLE, Int.reduceLT, Int.reduceNeg, reduceCtorEq], by simp only [go_sem, ↓reduceIte, Nat.reduceEqDiff, Nat.reduceLeDiff, Nat.reduceAdd, Nat.reduceMul, Nat.reduceSub, Nat.reduceBEq, Nat.reduceGT, Nat.reduceLT, Int.reduceLE, Int.reduceLT, Int.reduceNeg, reduceCtorEq], by simp only [go_sem, ↓reduceIte, Nat.reduceEqDiff, Nat.reduceLeDiff, Nat.reduceAdd, Nat.reduceMul, Nat.reduceSub, Nat.reduceBEq, Nat.reduceGT, Nat.reduceLT, Int.reduceLE, Int.reduceLT, Int.reduceNeg, reduceCtorEq], by simp only [go_sem, ↓reduceIte, Nat.reduceEqDiff, Nat.reduceLeDiff, Nat.reduceAdd, Nat.reduceMul, Nat.reduceSub, Nat.reduceBEq, Nat.reduceGT, Nat.reduceLT, Int.reduceLE, Int.reduceLT, Int.reduceNeg, reduceCtorEq] <;> rfl, by omega, by omega, t0⟩
    clear t0 g0 g1 g2 g3 bk bk' bc bc' px py nx0 ny ltx lty bxt bxt' x16 x13 hK2
    rintro ρ K ⟨i, Ux', Uy', p, q, p', q', e2, e8, e9, e10, hi, hi4, t⟩
    by_cases hlt : i < ls.length ∧ i < 400
    · obtain ⟨hl1, hl2⟩ := hlt
      obtain ⟨y, hy⟩ : ∃ y, ls[i]? = some y := ⟨_, List.getElem?_eq_getElem hl1⟩
      obtain ⟨gl, ol, rfl, hg⟩ := cls_at (hv.ext t.ext) hy
      have c0 : (0 : Int) ≤ i := by omega
      have z1 : (i : Int) < ls.length := by omega
      have z2 : (i : Int) < 400 := by omega
      have w2 : IntKind.i64.wrap ((i : Int) + 1) = ((i + 1 : Nat) : Int) := by rw [w64_id (by omega) (by omega)]; omega
      obtain ⟨hp1, hq1⟩ := t.px.one
      obtain ⟨hp2, hq2⟩ := t.py.one
      have hx2 : hgets K H3.size 0 2 = some [p, q] := hgets_of rfl fun j hj => by
        match j, hj with
        | 0, _ => exact t.g.1
        | 1, _ => exact t.g.2.1
      obtain ⟨bc, bxt, bk, bs⟩ := box_two K p q
      simp only [go_sem, ↓reduceIte, Nat.reduceEqDiff, Nat.reduceLeDiff, Nat.reduceAdd, Nat.reduceMul, Nat.reduceSub, Nat.reduceBEq, Nat.reduceGT, Nat.reduceLT, Int.reduceLE, Int.reduceLT, Int.reduceNeg, reduceCtorEq, c10_L0, e2, e8, e9, e10, c0, z1, z2, Int.toNat_natCast, hx2, bc, w2]
      refine ⟨by simp [hp1, hq1], ?_⟩
      obtain ⟨J, hJ⟩ : ∃ J, J = hput (K.push (.cells #[.pointer none, .pointer none] 51)) K.size 0 [p, q] := ⟨_, rfl⟩
      rw [← hJ] at bxt bk bs
      rw [← hJ]
      clear hJ
      have hgJ : ∀ {G : Heap}, Ext K G → ∀ j, j < 8 → hget G gl (ol + i * 8 + j) = (clC y)[j]? := fun {G} xg => by
        obtain ⟨_, _, e', hg'⟩ := cls_at ((hv.ext t.ext).ext xg) hy
        cases e'
        exact hg'
      have o7 : hget J gl (ol + i * 8 + 7) = some (.bool y.x.o) := hgJ bxt 7 (by decide)
      have h8 : ∀ {G : Heap}, Ext K G → hgets G gl (ol + i * 8) 8 = some (clC y) := fun {G} xg => hgets_of rfl fun j hj => hgJ xg j hj
      have hyo := hv.2 y (List.mem_of_getElem? hy)
      have hN : ∀ {V : Nat → Prop}, (∀ g, V g → H.size ≤ g) → ∀ g, (y.x.d ≠ [] ∧ blk y.dv = some g) ∨ (y.x.c ≠ [] ∧ blk y.cv = some g) → ¬ V g := fun {V} hV g hgg hf => by
        have h1 := hV g hf
        rcases hgg with ⟨hne, hb⟩ | ⟨hne, hb⟩
        · have := ints_lt hyo.d hne hb; omega
        · have := ints_lt hyo.c hne hb; omega
      have hnx : ∀ g, Ux' g → H.size ≤ g := fun g hg => (t.nx g hg).1
      have hny : ∀ g, Uy' g → H.size ≤ g := fun g hg => (t.ny g hg).1
      have hks : K.size < J.size := by omega
      cases ho : y.x.o with
      | false =>
        rw [ho] at o7
        simp only [go_sem, ↓reduceIte, Nat.reduceEqDiff, Nat.reduceLeDiff, Nat.reduceAdd, Nat.reduceMul, Nat.reduceSub, Nat.reduceBEq, Nat.reduceGT, Nat.reduceLT, Int.reduceLE, Int.reduceLT, Int.reduceNeg, reduceCtorEq, e2, e8, e9, e10, c0, z1, z2, Int.toNat_natCast, w2, o7, h8 bxt]
        refine FunI.by (F43 y ((hyo.ext t.ext).ext bxt)) ?_
        rintro _ J3 ⟨rfl, x3⟩
        have xK : Ext K J3 := bxt.trans (x3.mono bxt.size)
        have t3 := t.x xK
        have k3 : J3[K.size]? = some (.cells #[p, q] 51) := by rw [x3.get _ hks]; exact bk
        have z0 : hget J3 K.size 0 = some p := by rw [hget_cells k3]; rfl
        have z9 : hgets J3 K.size 0 2 = some [p, q] := hgets_of rfl fun j hj => by
          match j, hj with
          | 0, _ => exact z0
          | 1, _ => rw [hget_cells k3]; rfl
        rcases t3.px with ⟨rfl, rfl, _⟩ | ⟨b1, c1, rfl, rfl, hb⟩
        · simp only [go_sem, ↓reduceIte, Nat.reduceEqDiff, Nat.reduceLeDiff, Nat.reduceAdd, Nat.reduceMul, Nat.reduceSub, Nat.reduceBEq, Nat.reduceGT, Nat.reduceLT, Int.reduceLE, Int.reduceLT, Int.reduceNeg, reduceCtorEq, e2, e8, e9, e10, c0, z1, z2, Int.toNat_natCast, z0, w2]
          exact ⟨Hold.mk ⟨i + 1, Ux', Uy', _, _, _, _, by simp only [go_sem, ↓reduceIte, Nat.reduceEqDiff, Nat.reduceLeDiff, Nat.reduceAdd, Nat.reduceMul, Nat.reduceSub, Nat.reduceBEq, Nat.reduceGT, Nat.reduceLT, Int.reduceLE, Int.reduceLT, Int.reduceNeg, reduceCtorEq, e2], by simp only [go_sem, ↓reduceIte, Nat.reduceEqDiff, Nat.reduceLeDiff, Nat.reduceAdd, Nat.reduceMul, Nat.reduceSub, Nat.reduceBEq, Nat.reduceGT, Nat.reduceLT, Int.reduceLE, Int.reduceLT, Int.reduceNeg, reduceCtorEq, e8], by simp only [go_sem, ↓reduceIte, Nat.reduceEqDiff, Nat.reduceLeDiff, Nat.reduceAdd, Nat.reduceMul, Nat.reduceSub, Nat.reduceBEq, Nat.reduceGT, Nat.reduceLT, Int.reduceLE, Int.reduceLT, Int.reduceNeg, reduceCtorEq, e9], by simp only [go_sem, ↓reduceIte, Nat.reduceEqDiff, Nat.reduceLeDiff, Nat.reduceAdd, Nat.reduceMul, Nat.reduceSub, Nat.reduceBEq, Nat.reduceGT, Nat.reduceLT, Int.reduceLE, Int.reduceLT, Int.reduceNeg, reduceCtorEq], by omega, by omega, t3.mono (by omega)⟩, by omega⟩
        · simp only [ptrOf] at z0 z9
          cases hf : fitsB y.x with
          | false =>
            simp only [go_sem, ↓reduceIte, Nat.reduceEqDiff, Nat.reduceLeDiff, Nat.reduceAdd, Nat.reduceMul, Nat.reduceSub, Nat.reduceBEq, Nat.reduceGT, Nat.reduceLT, Int.reduceLE, Int.reduceLT, Int.reduceNeg, reduceCtorEq, e2, e8, e9, e10, c0, z1, z2, Int.toNat_natCast, z0, w2]
            exact ⟨Hold.mk ⟨i + 1, Ux', Uy', _, _, _, _, by simp only [go_sem, ↓reduceIte, Nat.reduceEqDiff, Nat.reduceLeDiff, Nat.reduceAdd, Nat.reduceMul, Nat.reduceSub, Nat.reduceBEq, Nat.reduceGT, Nat.reduceLT, Int.reduceLE, Int.reduceLT, Int.reduceNeg, reduceCtorEq, e2], by simp only [go_sem, ↓reduceIte, Nat.reduceEqDiff, Nat.reduceLeDiff, Nat.reduceAdd, Nat.reduceMul, Nat.reduceSub, Nat.reduceBEq, Nat.reduceGT, Nat.reduceLT, Int.reduceLE, Int.reduceLT, Int.reduceNeg, reduceCtorEq, e8], by simp only [go_sem, ↓reduceIte, Nat.reduceEqDiff, Nat.reduceLeDiff, Nat.reduceAdd, Nat.reduceMul, Nat.reduceSub, Nat.reduceBEq, Nat.reduceGT, Nat.reduceLT, Int.reduceLE, Int.reduceLT, Int.reduceNeg, reduceCtorEq, e9], by simp only [go_sem, ↓reduceIte, Nat.reduceEqDiff, Nat.reduceLeDiff, Nat.reduceAdd, Nat.reduceMul, Nat.reduceSub, Nat.reduceBEq, Nat.reduceGT, Nat.reduceLT, Int.reduceLE, Int.reduceLT, Int.reduceNeg, reduceCtorEq], by omega, by omega, t3.mono (by omega)⟩, by omega⟩
          | true =>
            have hfd : y.x.d.length ≤ 16384 := by
              unfold fitsB at hf
              simp only [Bool.and_eq_true, decide_eq_true_eq] at hf
              exact hf.1.1
            simp only [go_sem, ↓reduceIte, Nat.reduceEqDiff, Nat.reduceLeDiff, Nat.reduceAdd, Nat.reduceMul, Nat.reduceSub, Nat.reduceBEq, Nat.reduceGT, Nat.reduceLT, Int.reduceLE, Int.reduceLT, Int.reduceNeg, reduceCtorEq, e2, e10, c0, z1, Int.toNat_natCast, z0, z9, h8 xK, w2]
            refine FunI.by (F44 y ((hyo.ext t.ext).ext xK) hb (hN hnx) hfd (by omega)) ?_
            rintro _ J4 ⟨rfl, U', hb4, ch4⟩
            simp only [go_sem, ↓reduceIte, Nat.reduceEqDiff, Nat.reduceLeDiff, Nat.reduceAdd, Nat.reduceMul, Nat.reduceSub, Nat.reduceBEq, Nat.reduceGT, Nat.reduceLT, Int.reduceLE, Int.reduceLT, Int.reduceNeg, reduceCtorEq, e10, w2]
            exact ⟨Hold.mk ⟨i + 1, U', Uy', _, _, _, _, by simp only [go_sem, ↓reduceIte, Nat.reduceEqDiff, Nat.reduceLeDiff, Nat.reduceAdd, Nat.reduceMul, Nat.reduceSub, Nat.reduceBEq, Nat.reduceGT, Nat.reduceLT, Int.reduceLE, Int.reduceLT, Int.reduceNeg, reduceCtorEq, e2], by simp only [go_sem, ↓reduceIte, Nat.reduceEqDiff, Nat.reduceLeDiff, Nat.reduceAdd, Nat.reduceMul, Nat.reduceSub, Nat.reduceBEq, Nat.reduceGT, Nat.reduceLT, Int.reduceLE, Int.reduceLT, Int.reduceNeg, reduceCtorEq, e8], by simp only [go_sem, ↓reduceIte, Nat.reduceEqDiff, Nat.reduceLeDiff, Nat.reduceAdd, Nat.reduceMul, Nat.reduceSub, Nat.reduceBEq, Nat.reduceGT, Nat.reduceLT, Int.reduceLE, Int.reduceLT, Int.reduceNeg, reduceCtorEq, e9], by simp only [go_sem, ↓reduceIte, Nat.reduceEqDiff, Nat.reduceLeDiff, Nat.reduceAdd, Nat.reduceMul, Nat.reduceSub, Nat.reduceBEq, Nat.reduceGT, Nat.reduceLT, Int.reduceLE, Int.reduceLT, Int.reduceNeg, reduceCtorEq], by omega, by omega, t3.playX ch4 hb4⟩, by omega⟩
      | true =>
        rw [ho] at o7
        have hy2 : hgets J H6.size 0 2 = some [p', q'] := hgets_of rfl fun j hj => by
          match j, hj with
          | 0, _ => exact (t.x bxt).g.2.2.1
          | 1, _ => exact (t.x bxt).g.2.2.2
        have hcn : hcan J K.size 0 2 := hcan_of bk (by simp)
        have bk2 : (hput J K.size 0 [p', q'])[K.size]? = some (.cells #[p', q'] 51) := by rw [hput_same bk]; rfl
        have bxt2 : Ext K (hput J K.size 0 [p', q']) := bxt.hput (Nat.le_refl _)
        have hks2 : K.size < (hput J K.size 0 [p', q']).size := by rw [hput_size]; exact hks
        simp only [go_sem, ↓reduceIte, Nat.reduceEqDiff, Nat.reduceLeDiff, Nat.reduceAdd, Nat.reduceMul, Nat.reduceSub, Nat.reduceBEq, Nat.reduceGT, Nat.reduceLT, Int.reduceLE, Int.reduceLT, Int.reduceNeg, reduceCtorEq, e2, e8, e9, e10, c0, z1, z2, Int.toNat_natCast, w2, o7, hy2, hcn]
        refine ⟨by simp [hp2, hq2], ?_⟩
        obtain ⟨J2, hJ2⟩ : ∃ J2, J2 = hput J K.size 0 [p', q'] := ⟨_, rfl⟩
        rw [← hJ2] at bk2 bxt2 hks2
        rw [← hJ2]
        clear hJ2 bk bxt hks bs o7 hy2 hcn
        simp only [go_sem, ↓reduceIte, Nat.reduceEqDiff, Nat.reduceLeDiff, Nat.reduceAdd, Nat.reduceMul, Nat.reduceSub, Nat.reduceBEq, Nat.reduceGT, Nat.reduceLT, Int.reduceLE, Int.reduceLT, Int.reduceNeg, reduceCtorEq, e2, e8, e9, e10, c0, z1, z2, Int.toNat_natCast, w2, h8 bxt2]
        refine FunI.by (F43 y ((hyo.ext t.ext).ext bxt2)) ?_
        rintro _ J3 ⟨rfl, x3⟩
        have xK : Ext K J3 := bxt2.trans (x3.mono bxt2.size)
        have t3 := t.x xK
        have k3 : J3[K.size]? = some (.cells #[p', q'] 51) := by rw [x3.get _ hks2]; exact bk2
        have z0 : hget J3 K.size 0 = some p' := by rw [hget_cells k3]; rfl
        have z9 : hgets J3 K.size 0 2 = some [p', q'] := hgets_of rfl fun j hj => by
          match j, hj with
          | 0, _ => exact z0
          | 1, _ => rw [hget_cells k3]; rfl
        rcases t3.py with ⟨rfl, rfl, _⟩ | ⟨b1, c1, rfl, rfl, hb⟩
        · simp only [go_sem, ↓reduceIte, Nat.reduceEqDiff, Nat.reduceLeDiff, Nat.reduceAdd, Nat.reduceMul, Nat.reduceSub, Nat.reduceBEq, Nat.reduceGT, Nat.reduceLT, Int.reduceLE, Int.reduceLT, Int.reduceNeg, reduceCtorEq, e2, e8, e9, e10, c0, z1, z2, Int.toNat_natCast, z0, w2]
          exact ⟨Hold.mk ⟨i + 1, Ux', Uy', _, _, _, _, by simp only [go_sem, ↓reduceIte, Nat.reduceEqDiff, Nat.reduceLeDiff, Nat.reduceAdd, Nat.reduceMul, Nat.reduceSub, Nat.reduceBEq, Nat.reduceGT, Nat.reduceLT, Int.reduceLE, Int.reduceLT, Int.reduceNeg, reduceCtorEq, e2], by simp only [go_sem, ↓reduceIte, Nat.reduceEqDiff, Nat.reduceLeDiff, Nat.reduceAdd, Nat.reduceMul, Nat.reduceSub, Nat.reduceBEq, Nat.reduceGT, Nat.reduceLT, Int.reduceLE, Int.reduceLT, Int.reduceNeg, reduceCtorEq, e8], by simp only [go_sem, ↓reduceIte, Nat.reduceEqDiff, Nat.reduceLeDiff, Nat.reduceAdd, Nat.reduceMul, Nat.reduceSub, Nat.reduceBEq, Nat.reduceGT, Nat.reduceLT, Int.reduceLE, Int.reduceLT, Int.reduceNeg, reduceCtorEq, e9], by simp only [go_sem, ↓reduceIte, Nat.reduceEqDiff, Nat.reduceLeDiff, Nat.reduceAdd, Nat.reduceMul, Nat.reduceSub, Nat.reduceBEq, Nat.reduceGT, Nat.reduceLT, Int.reduceLE, Int.reduceLT, Int.reduceNeg, reduceCtorEq], by omega, by omega, t3.mono (by omega)⟩, by omega⟩
        · simp only [ptrOf] at z0 z9
          cases hf : fitsB y.x with
          | false =>
            simp only [go_sem, ↓reduceIte, Nat.reduceEqDiff, Nat.reduceLeDiff, Nat.reduceAdd, Nat.reduceMul, Nat.reduceSub, Nat.reduceBEq, Nat.reduceGT, Nat.reduceLT, Int.reduceLE, Int.reduceLT, Int.reduceNeg, reduceCtorEq, e2, e8, e9, e10, c0, z1, z2, Int.toNat_natCast, z0, w2]
            exact ⟨Hold.mk ⟨i + 1, Ux', Uy', _, _, _, _, by simp only [go_sem, ↓reduceIte, Nat.reduceEqDiff, Nat.reduceLeDiff, Nat.reduceAdd, Nat.reduceMul, Nat.reduceSub, Nat.reduceBEq, Nat.reduceGT, Nat.reduceLT, Int.reduceLE, Int.reduceLT, Int.reduceNeg, reduceCtorEq, e2], by simp only [go_sem, ↓reduceIte, Nat.reduceEqDiff, Nat.reduceLeDiff, Nat.reduceAdd, Nat.reduceMul, Nat.reduceSub, Nat.reduceBEq, Nat.reduceGT, Nat.reduceLT, Int.reduceLE, Int.reduceLT, Int.reduceNeg, reduceCtorEq, e8], by simp only [go_sem, ↓reduceIte, Nat.reduceEqDiff, Nat.reduceLeDiff, Nat.reduceAdd, Nat.reduceMul, Nat.reduceSub, Nat.reduceBEq, Nat.reduceGT, Nat.reduceLT, Int.reduceLE, Int.reduceLT, Int.reduceNeg, reduceCtorEq, e9], by simp only [go_sem, ↓reduceIte, Nat.reduceEqDiff, Nat.reduceLeDiff, Nat.reduceAdd, Nat.reduceMul, Nat.reduceSub, Nat.reduceBEq, Nat.reduceGT, Nat.reduceLT, Int.reduceLE, Int.reduceLT, Int.reduceNeg, reduceCtorEq], by omega, by omega, t3.mono (by omega)⟩, by omega⟩
          | true =>
            have hfd : y.x.d.length ≤ 16384 := by
              unfold fitsB at hf
              simp only [Bool.and_eq_true, decide_eq_true_eq] at hf
              exact hf.1.1
            simp only [go_sem, ↓reduceIte, Nat.reduceEqDiff, Nat.reduceLeDiff, Nat.reduceAdd, Nat.reduceMul, Nat.reduceSub, Nat.reduceBEq, Nat.reduceGT, Nat.reduceLT, Int.reduceLE, Int.reduceLT, Int.reduceNeg, reduceCtorEq, e2, e10, c0, z1, Int.toNat_natCast, z0, z9, h8 xK, w2]
            refine FunI.by (F44 y ((hyo.ext t.ext).ext xK) hb (hN hny) hfd (by omega)) ?_
            rintro _ J4 ⟨rfl, U', hb4, ch4⟩
            simp only [go_sem, ↓reduceIte, Nat.reduceEqDiff, Nat.reduceLeDiff, Nat.reduceAdd, Nat.reduceMul, Nat.reduceSub, Nat.reduceBEq, Nat.reduceGT, Nat.reduceLT, Int.reduceLE, Int.reduceLT, Int.reduceNeg, reduceCtorEq, e10, w2]
            exact ⟨Hold.mk ⟨i + 1, Ux', U', _, _, _, _, by simp only [go_sem, ↓reduceIte, Nat.reduceEqDiff, Nat.reduceLeDiff, Nat.reduceAdd, Nat.reduceMul, Nat.reduceSub, Nat.reduceBEq, Nat.reduceGT, Nat.reduceLT, Int.reduceLE, Int.reduceLT, Int.reduceNeg, reduceCtorEq, e2], by simp only [go_sem, ↓reduceIte, Nat.reduceEqDiff, Nat.reduceLeDiff, Nat.reduceAdd, Nat.reduceMul, Nat.reduceSub, Nat.reduceBEq, Nat.reduceGT, Nat.reduceLT, Int.reduceLE, Int.reduceLT, Int.reduceNeg, reduceCtorEq, e8], by simp only [go_sem, ↓reduceIte, Nat.reduceEqDiff, Nat.reduceLeDiff, Nat.reduceAdd, Nat.reduceMul, Nat.reduceSub, Nat.reduceBEq, Nat.reduceGT, Nat.reduceLT, Int.reduceLE, Int.reduceLT, Int.reduceNeg, reduceCtorEq, e9], by simp only [go_sem, ↓reduceIte, Nat.reduceEqDiff, Nat.reduceLeDiff, Nat.reduceAdd, Nat.reduceMul, Nat.reduceSub, Nat.reduceBEq, Nat.reduceGT, Nat.reduceLT, Int.reduceLE, Int.reduceLT, Int.reduceNeg, reduceCtorEq], by omega, by omega, t3.playY ch4 hb4⟩, by omega⟩
    · have q8 : (¬ (i : Int) < ls.length) ∨ ((i : Int) < ls.length ∧ ¬ (i : Int) < 400) := by omega
      obtain ⟨g0, g1, g2, g3⟩ := t.g
      have hx2 : hgets K H3.size 0 2 = some [p, q] := hgets_of rfl fun j hj => by
        match j, hj with
        | 0, _ => exact g0
        | 1, _ => exact g1
      rcases q8 with z1 | ⟨z1, z2⟩
      case' inl => simp only [go_sem, ↓reduceIte, Nat.reduceEqDiff, Nat.reduceLeDiff, Nat.reduceAdd, Nat.reduceMul, Nat.reduceSub, Nat.reduceBEq, Nat.reduceGT, Nat.reduceLT, Int.reduceLE, Int.reduceLT, Int.reduceNeg, reduceCtorEq, c10_L0, e2, e8, e9, e10, z1]
      case' inr => simp only [go_sem, ↓reduceIte, Nat.reduceEqDiff, Nat.reduceLeDiff, Nat.reduceAdd, Nat.reduceMul, Nat.reduceSub, Nat.reduceBEq, Nat.reduceGT, Nat.reduceLT, Int.reduceLE, Int.reduceLT, Int.reduceNeg, reduceCtorEq, c10_L0, e2, e8, e9, e10, z1, z2]
      all_goals
        have q9 : ∀ {G : Heap} {p q : Value} {V : Nat → Prop}, P8 G V p q i → (p = .pointer none) ∨ ∃ b c, p = .pointer (some ⟨b, 0, none⟩) ∧ q = .pointer (some ⟨c, 0, none⟩) ∧ Fun Try.prog 27 #[.agg #[ptrOf b, ptrOf c]] G (fun v H' => v = .bool true ∧ Ext G H') := fun {G p q V} h => by
          rcases h with ⟨rfl, _, _⟩ | ⟨b, c, rfl, rfl, F, G', φ, s, r, h8, ho, hU⟩
          · exact .inl rfl
          · exact .inr ⟨b, c, rfl, rfl, F27 h8.f h8.ok (by omega) h8.g (h8.sim.ok h8.ok h8.lim (by omega)) (h8.sim.tells h8.ok)⟩
        rcases q9 t.px with rfl | ⟨b1, c1, rfl, rfl, ft⟩
        case' inl =>
          have q7 : ∃ (K' : Heap), K' = K ∧ T8 H K' Ux' Uy' H3.size H6.size (.pointer none) q p' q' i := ⟨K, rfl, t⟩
          simp only [go_sem, ↓reduceIte, Nat.reduceEqDiff, Nat.reduceLeDiff, Nat.reduceAdd, Nat.reduceMul, Nat.reduceSub, Nat.reduceBEq, Nat.reduceGT, Nat.reduceLT, Int.reduceLE, Int.reduceLT, Int.reduceNeg, reduceCtorEq, e8, e9, g0]
        case' inr =>
          simp only [go_sem, ↓reduceIte, Nat.reduceEqDiff, Nat.reduceLeDiff, Nat.reduceAdd, Nat.reduceMul, Nat.reduceSub, Nat.reduceBEq, Nat.reduceGT, Nat.reduceLT, Int.reduceLE, Int.reduceLT, Int.reduceNeg, reduceCtorEq, e8, e9, g0, hx2]
          refine FunI.by ft ?_
          rintro _ K' ⟨rfl, x'⟩
          have q7 : ∃ (K'' : Heap), K'' = K' ∧ T8 H K'' Ux' Uy' H3.size H6.size _ _ p' q' i := ⟨K', rfl, t.x x'⟩
          simp only [go_sem, ↓reduceIte, Nat.reduceEqDiff, Nat.reduceLeDiff, Nat.reduceAdd, Nat.reduceMul, Nat.reduceSub, Nat.reduceBEq, Nat.reduceGT, Nat.reduceLT, Int.reduceLE, Int.reduceLT, Int.reduceNeg, reduceCtorEq]
        all_goals
          obtain ⟨L, rfl, t'⟩ := q7
          obtain ⟨_, _, g2', g3'⟩ := t'.g
          have hy2 : hgets L H6.size 0 2 = some [p', q'] := hgets_of rfl fun j hj => by
            match j, hj with
            | 0, _ => exact g2'
            | 1, _ => exact g3'
          rcases q9 t'.py with rfl | ⟨b2, c2, rfl, rfl, ft2⟩
          · simp only [go_sem, ↓reduceIte, Nat.reduceEqDiff, Nat.reduceLeDiff, Nat.reduceAdd, Nat.reduceMul, Nat.reduceSub, Nat.reduceBEq, Nat.reduceGT, Nat.reduceLT, Int.reduceLE, Int.reduceLT, Int.reduceNeg, reduceCtorEq, e9, g2']
            exact t'.ext
          · simp only [go_sem, ↓reduceIte, Nat.reduceEqDiff, Nat.reduceLeDiff, Nat.reduceAdd, Nat.reduceMul, Nat.reduceSub, Nat.reduceBEq, Nat.reduceGT, Nat.reduceLT, Int.reduceLE, Int.reduceLT, Int.reduceNeg, reduceCtorEq, e9, g2', hy2]
            refine FunI.by ft2 ?_
            rintro _ K2' ⟨rfl, x2'⟩
            simp only [go_sem, ↓reduceIte, Nat.reduceEqDiff, Nat.reduceLeDiff, Nat.reduceAdd, Nat.reduceMul, Nat.reduceSub, Nat.reduceBEq, Nat.reduceGT, Nat.reduceLT, Int.reduceLE, Int.reduceLT, Int.reduceNeg, reduceCtorEq]
            exact (t'.x x2').ext
end Go.Proofs.Ytmkheogjnlmkdaa
