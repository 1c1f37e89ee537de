/- The law FsKept, over heaps. -/
import Derived.Test.YtmkheogjnlmkdaaVFlG
import Derived.Test.YtmkheogjnlmkdaaVFlT
import Derived.Test.YtmkheogjnlmkdaaVRowG
set_option linter.unusedSimpArgs false
set_option linter.unusedVariables false
set_option maxRecDepth 20000
namespace Go.V
open Go
theorem names8_len {D : Dir} {ns : List Nm} (h : IsNames D ns) (hD : ∀ n, D n ≠ none → n ∈ names8) : ns.length ≤ 8 := by
  have h1 := nodup_sub (ns.map fun n => n.data.toList) (names8.map fun n => n.data.toList) ?_ fun x hx => ?_
  · simpa [names8] using h1
  · have := h.1
    rw [List.Nodup, List.pairwise_map]
    exact this.imp fun hab e => by rw [e] at hab; exact List.lt_irrefl _ hab
  · obtain ⟨n, hn, rfl⟩ := List.mem_map.1 hx
    exact List.mem_map.2 ⟨n, hD n ((h.2 n).1 hn), rfl⟩
end Go.V
namespace Go.Proofs.Ytmkheogjnlmkdaa
open Go Go.V Go.ChangeShapes Go.WideShapes Go.ChangeAt Go.RowKit
-- 8: pith/pithlaw8.FsKept
-- 11: pith/pithlaw8.first
-- 22: pith/pithlaw8.num
-- 12: pith/fs.New
-- 14: pith/pithlaw8.does
-- 17: pith/pithlaw8.plain
-- 19: pith/pithlaw8.says
-- 28: (*pith/fs.FS).Arm
-- 29: (*pith/fs.FS).Power
-- 24: (*pith/fs.FS).Pending
-- 25: (*pith/fs.FS).Crash
-- 3: int
-- 62: []int
-- 30: pithlaw8.Step
-- 5: uint8
-- 44: pith/api.File
set_option maxHeartbeats 6400000 in
theorem F8 (v : Value) (os : List Stp) (k : Int) (H : Heap) (hv : Steps H v os) (hf : ∀ t ∈ os, 0 ≤ t.fill ∧ t.fill < 256) (hk : IntR .i64 k) :
    Fun Try.prog 8 #[v, .int .i64 k] H (fun r H' => r = .bool true ∧ Ext H H') := by
  replace hk : k < 9223372036854775808 := (i64_rng hk).2
  obtain ⟨a, c, rfl⟩ := steps_form hv
  refine fun_of mixed (args := [_, _]) Try.func8 Try.ntmps8 b8 r8 rfl ?_
  simp only [go_sem, ↓reduceIte, Nat.reduceEqDiff, Nat.reduceLeDiff, Nat.reduceAdd, Nat.reduceMul, Nat.reduceSub, Nat.reduceBEq, Nat.reduceGT, Nat.reduceLT, Int.reduceLE, Int.reduceLT, Int.reduceNeg, reduceCtorEq]
  refine FunI.by (F11 H) ?_
  rintro _ H1 ⟨rfl, x1⟩
  simp only [go_sem, ↓reduceIte, Nat.reduceEqDiff, Nat.reduceLeDiff, Nat.reduceAdd, Nat.reduceMul, Nat.reduceSub, Nat.reduceBEq, Nat.reduceGT, Nat.reduceLT, Int.reduceLE, Int.reduceLT, Int.reduceNeg, reduceCtorEq]
  refine FunI.by (F12 2147483647 H1 trivial) ?_
  rintro f H2 ⟨x2, h⟩
  have x12 := x1.trans (x2.mono x1.size)
  rw [if_neg (by omega)] at h
  obtain ⟨b, F, rfl, h2, n2⟩ := h
  have N2 : Newly H H2 F := ⟨x12, fun g hg => Nat.le_trans x1.size (n2 g hg)⟩
  by_cases hk1 : k < 1
  · simp only [go_sem, ↓reduceIte, Nat.reduceEqDiff, Nat.reduceLeDiff, Nat.reduceAdd, Nat.reduceMul, Nat.reduceSub, Nat.reduceBEq, Nat.reduceGT, Nat.reduceLT, Int.reduceLE, Int.reduceLT, Int.reduceNeg, reduceCtorEq, ptrOf, hk1]
    exact x12
  have hk2 : 1 ≤ k := by omega
  simp only [go_sem, ↓reduceIte, Nat.reduceEqDiff, Nat.reduceLeDiff, Nat.reduceAdd, Nat.reduceMul, Nat.reduceSub, Nat.reduceBEq, Nat.reduceGT, Nat.reduceLT, Int.reduceLE, Int.reduceLT, Int.reduceNeg, reduceCtorEq, ptrOf, hk1]
  refine FunI.by (F28 h2 k) ?_
  rintro _ H3 ⟨rfl, h3, c3⟩
  have e1 : armS (freshS 2147483647) k = ({ freshS 2147483647 with fuse := k }, 0) := by
    unfold armS; rw [if_neg (by omega), if_neg (by simp [freshS])]
  have ok3 := arm_ok (fresh_ok (room := 2147483647) (by omega)) (k := k) hk
  rw [e1] at h3 ok3
  have N3 := N2.ch c3
  simp only [go_sem, ↓reduceIte, Nat.reduceEqDiff, Nat.reduceLeDiff, Nat.reduceAdd, Nat.reduceMul, Nat.reduceSub, Nat.reduceBEq, Nat.reduceGT, Nat.reduceLT, Int.reduceLE, Int.reduceLT, Int.reduceNeg, reduceCtorEq, ptrOf]
  refine LoopI.by mixed (fun ρ H' => ∃ (i : Nat) (s : St) (F : Nat → Prop) (L : List Fl) (fv : Value), ρ 0 = .slice a os.length c ∧ ρ 6 = ptrOf b ∧ ρ 7 = fv ∧ ρ 8 = .int .i64 i ∧ i ≤ os.length ∧ i ≤ 300 ∧
    FsH H' F b s ∧ Ok s ∧ s.off = false ∧ s.ops ≤ i ∧ Whole s ∧ FilesN H' (Out F H') fv L ∧ Nd L ∧ viewS s = lkp L ∧ L.length ≤ i ∧ (∀ x ∈ L, Byt x.2 ∧ x.2.length ≤ 50 * i) ∧ (∀ n, viewS s n ≠ none → n ∈ names8) ∧ Newly H H' F) (fun ρ _ => os.length - (iof (ρ 8)).toNat) ?_ ?_
  · exact ⟨0, _, F, [], _, by simp only [go_sem, ↓reduceIte, Nat.reduceEqDiff, Nat.reduceLeDiff, Nat.reduceAdd, Nat.reduceMul, Nat.reduceSub, Nat.reduceBEq, Nat.reduceGT, Nat.reduceLT, Int.reduceLE, Int.reduceLT, Int.reduceNeg, reduceCtorEq], by simp only [go_sem, ↓reduceIte, Nat.reduceEqDiff, Nat.reduceLeDiff, Nat.reduceAdd, Nat.reduceMul, Nat.reduceSub, Nat.reduceBEq, Nat.reduceGT, Nat.reduceLT, Int.reduceLE, Int.reduceLT, Int.reduceNeg, reduceCtorEq, ptrOf], by simp only [go_sem, ↓reduceIte, Nat.reduceEqDiff, Nat.reduceLeDiff, Nat.reduceAdd, Nat.reduceMul, Nat.reduceSub, Nat.reduceBEq, Nat.reduceGT, Nat.reduceLT, Int.reduceLE, Int.reduceLT, Int.reduceNeg, reduceCtorEq] <;> rfl, by simp only [go_sem, ↓reduceIte, Nat.reduceEqDiff, Nat.reduceLeDiff, Nat.reduceAdd, Nat.reduceMul, Nat.reduceSub, Nat.reduceBEq, Nat.reduceGT, Nat.reduceLT, Int.reduceLE, Int.reduceLT, Int.reduceNeg, reduceCtorEq] <;> rfl, by omega, by omega,
      h3, ok3, rfl, Int.le_refl _, rfl, RecN.nil, List.nodup_nil, rfl, Nat.le_refl _, by simp, fun n hn => absurd rfl hn, N3⟩
  clear h2 N2 n2 x12 x1 x2 h3 ok3 c3 N3
  rintro ρ H' ⟨i, s, F, L, fv, e0, e6, e7, e8, hi, hi3, hfs, ok, hoff, hops, hwh, hfl, nd, hview, hL, hLb, h8, nw⟩
  by_cases hlt : i < os.length ∧ i < 300
  case' pos =>
    obtain ⟨hl1, hl2⟩ := hlt
    obtain ⟨t, hti⟩ : ∃ t, os[i]? = some t := ⟨_, List.getElem?_eq_getElem hl1⟩
    have htf := hf t (List.mem_of_getElem? hti)
    have hst : ∀ {G : Heap}, Ext H G → Steps G (.slice a os.length c) os := fun x => Sl.ext hv x
    obtain ⟨g, o, rfl, _⟩ := steps_at (hst nw.1) hti
    have sg : ∀ {G : Heap}, Ext H G → hget G g (o + i * 5) = some (.int .i64 t.kind) ∧ hget G g (o + i * 5 + 1) = some (.int .i64 t.i) ∧ hget G g (o + i * 5 + 2) = some (.int .i64 t.k) ∧ hget G g (o + i * 5 + 3) = some (.int .i64 t.many) ∧ hget G g (o + i * 5 + 4) = some (.int .u8 t.fill) := fun x => by
      obtain ⟨g', o', e, h⟩ := steps_at (hst x) hti
      cases e
      exact h
    obtain ⟨k0, k1, k2, k3, k4⟩ := sg nw.1
    have c0 : (0 : Int) ≤ i := by omega
    have c1 : (i : Int) < os.length := by omega
    have c2 : (i : Int) < 300 := by omega
    have w2 : IntKind.i64.wrap ((i : Int) + 1) = ((i + 1 : Nat) : Int) := by rw [w64_id (by omega) (by omega)]; omega
    simp only [go_sem, ↓reduceIte, Nat.reduceEqDiff, Nat.reduceLeDiff, Nat.reduceAdd, Nat.reduceMul, Nat.reduceSub, Nat.reduceBEq, Nat.reduceGT, Nat.reduceLT, Int.reduceLE, Int.reduceLT, Int.reduceNeg, reduceCtorEq, c8_L0, e0, e6, e7, e8, c0, c1, c2, Int.toNat_natCast, hgets5, k0, k1, k2, k3, k4, Option.bind_some, w2]
    refine FunI.by (F14 hfs ok (by omega) t htf) ?_
    rintro _ H5 ⟨x, hx, rfl, F5, h5, ch5⟩
    have nw5 := nw.ch ch5
    have fl5 := hfl.ch ch5
    have ok5 := does_ok ok t hx
    have op := does_ops s t x
    have wh5 := does_whole hwh t x
    have oL : ∀ g, F5 g → g < H5.size := fun g hg => by obtain ⟨_, _, _, _, _, q⟩ := h5; exact q.lt g hg
    obtain ⟨k0, k1, k2, k3, k4⟩ := sg nw5.1
    rcases does_view ok hoff t hx with ⟨he, hvw⟩ | ⟨hs, he0, he81, _⟩
    case' inr =>
      simp only [go_sem, ↓reduceIte, Nat.reduceEqDiff, Nat.reduceLeDiff, Nat.reduceAdd, Nat.reduceMul, Nat.reduceSub, Nat.reduceBEq, Nat.reduceGT, Nat.reduceLT, Int.reduceLE, Int.reduceLT, Int.reduceNeg, reduceCtorEq, e0, e6, e7, e8, c0, c1, c2, he0, he81, w2]
      rw [hs] at h5
      exact ⟨Hold.mk ⟨i + 1, s, F5, L, fv, by simp only [go_sem, ↓reduceIte, Nat.reduceEqDiff, Nat.reduceLeDiff, Nat.reduceAdd, Nat.reduceMul, Nat.reduceSub, Nat.reduceBEq, Nat.reduceGT, Nat.reduceLT, Int.reduceLE, Int.reduceLT, Int.reduceNeg, reduceCtorEq, e0], by simp only [go_sem, ↓reduceIte, Nat.reduceEqDiff, Nat.reduceLeDiff, Nat.reduceAdd, Nat.reduceMul, Nat.reduceSub, Nat.reduceBEq, Nat.reduceGT, Nat.reduceLT, Int.reduceLE, Int.reduceLT, Int.reduceNeg, reduceCtorEq, e6], by simp only [go_sem, ↓reduceIte, Nat.reduceEqDiff, Nat.reduceLeDiff, Nat.reduceAdd, Nat.reduceMul, Nat.reduceSub, Nat.reduceBEq, Nat.reduceGT, Nat.reduceLT, Int.reduceLE, Int.reduceLT, Int.reduceNeg, reduceCtorEq, e7], by simp only [go_sem, ↓reduceIte, Nat.reduceEqDiff, Nat.reduceLeDiff, Nat.reduceAdd, Nat.reduceMul, Nat.reduceSub, Nat.reduceBEq, Nat.reduceGT, Nat.reduceLT, Int.reduceLE, Int.reduceLT, Int.reduceNeg, reduceCtorEq], by omega, by omega, h5, ok, hoff, by omega, hwh, fl5, nd, hview, by omega, fun y hy => ⟨(hLb y hy).1, by have := (hLb y hy).2; omega⟩, h8, nw5⟩, by omega⟩
    have lp := look_plain nd t
    have ll := plain_len (s := t) hLb
    have hv7 : viewS (doesS s t x).1 = lkp (plainS L t) := by rw [hvw, hview, lp.1]
    have h87 : ∀ n, viewS (doesS s t x).1 n ≠ none → n ∈ names8 := by rw [hvw]; exact plainV_names h8 t
    have nd7 := lp.2
    have hl7 : (plainS L t).length ≤ i + 1 := by omega
    have hb7 : ∀ y ∈ plainS L t, Byt y.2 ∧ y.2.length ≤ 50 * (i + 1) := fun y hy => ⟨(ll.1 y hy).1, by have := (ll.1 y hy).2; omega⟩
    rcases he with he | he
    case' inl =>
      have hoff5 : (doesS s t x).1.off = false := does_on0 hoff he
      simp only [go_sem, ↓reduceIte, Nat.reduceEqDiff, Nat.reduceLeDiff, Nat.reduceAdd, Nat.reduceMul, Nat.reduceSub, Nat.reduceBEq, Nat.reduceGT, Nat.reduceLT, Int.reduceLE, Int.reduceLT, Int.reduceNeg, reduceCtorEq, he, e0, e6, e7, e8, c0, c1, c2, Int.toNat_natCast, hgets5, k0, k1, k2, k3, k4, Option.bind_some, Int.reduceEq]
      refine FunI.by (F17 fl5 (fun g hg => hg.1) (by omega) (fun y hy => by have := (hLb y hy).2; omega) t htf) ?_
      rintro fv' H6 ⟨fl6, x6⟩
      have fl7 : FilesN H6 (Out F5 H6) fv' (plainS L t) := fl6.more (Gr.out oL x6)
      have h7 := h5.ext x6
      have nw7 := nw5.ext x6
      simp only [go_sem, ↓reduceIte, Nat.reduceEqDiff, Nat.reduceLeDiff, Nat.reduceAdd, Nat.reduceMul, Nat.reduceSub, Nat.reduceBEq, Nat.reduceGT, Nat.reduceLT, Int.reduceLE, Int.reduceLT, Int.reduceNeg, reduceCtorEq, e0, e6, e7, e8, w2, Int.reduceEq]
      exact ⟨Hold.mk ⟨i + 1, _, F5, _, fv', by simp only [go_sem, ↓reduceIte, Nat.reduceEqDiff, Nat.reduceLeDiff, Nat.reduceAdd, Nat.reduceMul, Nat.reduceSub, Nat.reduceBEq, Nat.reduceGT, Nat.reduceLT, Int.reduceLE, Int.reduceLT, Int.reduceNeg, reduceCtorEq, e0], by simp only [go_sem, ↓reduceIte, Nat.reduceEqDiff, Nat.reduceLeDiff, Nat.reduceAdd, Nat.reduceMul, Nat.reduceSub, Nat.reduceBEq, Nat.reduceGT, Nat.reduceLT, Int.reduceLE, Int.reduceLT, Int.reduceNeg, reduceCtorEq, e6], by simp only [go_sem, ↓reduceIte, Nat.reduceEqDiff, Nat.reduceLeDiff, Nat.reduceAdd, Nat.reduceMul, Nat.reduceSub, Nat.reduceBEq, Nat.reduceGT, Nat.reduceLT, Int.reduceLE, Int.reduceLT, Int.reduceNeg, reduceCtorEq], by simp only [go_sem, ↓reduceIte, Nat.reduceEqDiff, Nat.reduceLeDiff, Nat.reduceAdd, Nat.reduceMul, Nat.reduceSub, Nat.reduceBEq, Nat.reduceGT, Nat.reduceLT, Int.reduceLE, Int.reduceLT, Int.reduceNeg, reduceCtorEq], by omega, by omega, h7, ok5, hoff5, by omega, wh5, fl7, nd7, hv7, hl7, hb7, h87, nw7⟩, by omega⟩
    simp only [go_sem, ↓reduceIte, Nat.reduceEqDiff, Nat.reduceLeDiff, Nat.reduceAdd, Nat.reduceMul, Nat.reduceSub, Nat.reduceBEq, Nat.reduceGT, Nat.reduceLT, Int.reduceLE, Int.reduceLT, Int.reduceNeg, reduceCtorEq, he, e0, e6, e7, e8, c0, c1, c2, Int.toNat_natCast, hgets5, k0, k1, k2, k3, k4, Option.bind_some, Int.reduceEq]
    refine FunI.by (F17 fl5 (fun g hg => hg.1) (by omega) (fun y hy => by have := (hLb y hy).2; omega) t htf) ?_
    rintro fv' H6 ⟨fl6, x6⟩
    have fl7 : FilesN H6 (Out F5 H6) fv' (plainS L t) := fl6.more (Gr.out oL x6)
    have h7 := h5.ext x6
    have nw7 := nw5.ext x6
    have q8 : ∃ (Hc : Heap) (s : St) (F : Nat → Prop) (L : List Fl) (fv : Value), Hc = H6 ∧ fv = fv' ∧ FsH Hc F b s ∧ Ok s ∧ s.ops ≤ 300 ∧ Whole s ∧ FilesN Hc (Out F Hc) fv L ∧ Nd L ∧ viewS s = lkp L ∧ L.length ≤ 300 ∧ (∀ x ∈ L, Byt x.2 ∧ x.2.length ≤ 50 * 300) ∧ (∀ n, viewS s n ≠ none → n ∈ names8) ∧ Newly H Hc F :=
      ⟨H6, _, F5, _, fv', rfl, rfl, h7, ok5, by omega, wh5, fl7, nd7, hv7, by omega, fun y hy => ⟨(hb7 y hy).1, by have := (hb7 y hy).2; omega⟩, h87, nw7⟩
    simp only [go_sem, ↓reduceIte, Nat.reduceEqDiff, Nat.reduceLeDiff, Nat.reduceAdd, Nat.reduceMul, Nat.reduceSub, Nat.reduceBEq, Nat.reduceGT, Nat.reduceLT, Int.reduceLE, Int.reduceLT, Int.reduceNeg, reduceCtorEq, e0, e6, e7, e8, w2, Int.reduceEq]
    clear h7 fl7 nw7 x6 fl6 wh5 ok5 h5 ch5 fl5 nw5
  case' neg =>
    have q8 : ∃ (Hc : Heap) (s : St) (F : Nat → Prop) (L : List Fl) (fv' : Value), Hc = H' ∧ fv' = fv ∧ FsH Hc F b s ∧ Ok s ∧ s.ops ≤ 300 ∧ Whole s ∧ FilesN Hc (Out F Hc) fv' L ∧ Nd L ∧ viewS s = lkp L ∧ L.length ≤ 300 ∧ (∀ x ∈ L, Byt x.2 ∧ x.2.length ≤ 50 * 300) ∧ (∀ n, viewS s n ≠ none → n ∈ names8) ∧ Newly H Hc F :=
      ⟨H', s, F, L, fv, rfl, rfl, hfs, ok, by omega, hwh, hfl, nd, hview, by omega, fun y hy => ⟨(hLb y hy).1, by have := (hLb y hy).2; omega⟩, h8, nw⟩
    by_cases hl1 : (i : Int) < os.length
    case' pos =>
      have hl2 : ¬ (i : Int) < 300 := by omega
      simp only [go_sem, ↓reduceIte, Nat.reduceEqDiff, Nat.reduceLeDiff, Nat.reduceAdd, Nat.reduceMul, Nat.reduceSub, Nat.reduceBEq, Nat.reduceGT, Nat.reduceLT, Int.reduceLE, Int.reduceLT, Int.reduceNeg, reduceCtorEq, c8_L0, e0, e6, e7, e8, hl1, hl2]
    case' neg =>
      simp only [go_sem, ↓reduceIte, Nat.reduceEqDiff, Nat.reduceLeDiff, Nat.reduceAdd, Nat.reduceMul, Nat.reduceSub, Nat.reduceBEq, Nat.reduceGT, Nat.reduceLT, Int.reduceLE, Int.reduceLT, Int.reduceNeg, reduceCtorEq, c8_L0, e0, e6, e7, e8, hl1]
  all_goals
    obtain ⟨Hc, s8, F8, L8, fv8, eH, eV, hf8, ok8, hop8, wh8, fl8, nd8, hv8, hl8, hb8, hn8, nw8⟩ := q8
    subst eH
    subst eV
    refine LoopI.by mixed (fun ρ H' => ∃ (j : Nat) (cv : Value), ρ 6 = ptrOf b ∧ ρ 7 = fv8 ∧ ρ 10 = cv ∧ ρ 11 = .int .i64 j ∧ j ≤ 10 ∧ Own H' Hc.size 3 1 cv ((List.replicate j (1099511627776 : Int)).map (.int .i64)) ∧ Ext Hc H') (fun ρ _ => 10 - (iof (ρ 11)).toNat) ?_ ?_
    · exact ⟨0, _, by simp only [go_sem, ↓reduceIte, Nat.reduceEqDiff, Nat.reduceLeDiff, Nat.reduceAdd, Nat.reduceMul, Nat.reduceSub, Nat.reduceBEq, Nat.reduceGT, Nat.reduceLT, Int.reduceLE, Int.reduceLT, Int.reduceNeg, reduceCtorEq, e6], by simp only [go_sem, ↓reduceIte, Nat.reduceEqDiff, Nat.reduceLeDiff, Nat.reduceAdd, Nat.reduceMul, Nat.reduceSub, Nat.reduceBEq, Nat.reduceGT, Nat.reduceLT, Int.reduceLE, Int.reduceLT, Int.reduceNeg, reduceCtorEq, e7], by simp only [go_sem, ↓reduceIte, Nat.reduceEqDiff, Nat.reduceLeDiff, Nat.reduceAdd, Nat.reduceMul, Nat.reduceSub, Nat.reduceBEq, Nat.reduceGT, Nat.reduceLT, Int.reduceLE, Int.reduceLT, Int.reduceNeg, reduceCtorEq] <;> rfl, by simp only [go_sem, ↓reduceIte, Nat.reduceEqDiff, Nat.reduceLeDiff, Nat.reduceAdd, Nat.reduceMul, Nat.reduceSub, Nat.reduceBEq, Nat.reduceGT, Nat.reduceLT, Int.reduceLE, Int.reduceLT, Int.reduceNeg, reduceCtorEq] <;> rfl, by omega, Own.nil, Upto.refl _ _⟩
    rintro ρ H9 ⟨j, cv, r6, r7, r10, r11, hj, ow, x9⟩
    by_cases hj2 : j < 10
    · have c1 : (j : Int) < 10 := by omega
      have w4 : IntKind.i64.wrap ((j : Int) + 1) = ((j + 1 : Nat) : Int) := by rw [w64_id (by omega) (by omega)]; omega
      simp only [go_sem, ↓reduceIte, Nat.reduceEqDiff, Nat.reduceLeDiff, Nat.reduceAdd, Nat.reduceMul, Nat.reduceSub, Nat.reduceBEq, Nat.reduceGT, Nat.reduceLT, Int.reduceLE, Int.reduceLT, Int.reduceNeg, reduceCtorEq, c8_L1, r6, r7, r10, r11, c1]
      refine RunI.by (append_lit ty62 ty3 rfl (by decide) ow (ys := [.int .i64 1099511627776]) (m := 1) rfl rfl (n := j + 1) (by simp) (by omega) (by omega) x9.size) ?_
      rintro cv' H10 ⟨o10, g10, _⟩
      simp only [go_sem, ↓reduceIte, Nat.reduceEqDiff, Nat.reduceLeDiff, Nat.reduceAdd, Nat.reduceMul, Nat.reduceSub, Nat.reduceBEq, Nat.reduceGT, Nat.reduceLT, Int.reduceLE, Int.reduceLT, Int.reduceNeg, reduceCtorEq, r11, w4]
      refine ⟨Hold.mk ⟨j + 1, cv', by simp only [go_sem, ↓reduceIte, Nat.reduceEqDiff, Nat.reduceLeDiff, Nat.reduceAdd, Nat.reduceMul, Nat.reduceSub, Nat.reduceBEq, Nat.reduceGT, Nat.reduceLT, Int.reduceLE, Int.reduceLT, Int.reduceNeg, reduceCtorEq, r6], by simp only [go_sem, ↓reduceIte, Nat.reduceEqDiff, Nat.reduceLeDiff, Nat.reduceAdd, Nat.reduceMul, Nat.reduceSub, Nat.reduceBEq, Nat.reduceGT, Nat.reduceLT, Int.reduceLE, Int.reduceLT, Int.reduceNeg, reduceCtorEq, r7], by simp only [go_sem, ↓reduceIte, Nat.reduceEqDiff, Nat.reduceLeDiff, Nat.reduceAdd, Nat.reduceMul, Nat.reduceSub, Nat.reduceBEq, Nat.reduceGT, Nat.reduceLT, Int.reduceLE, Int.reduceLT, Int.reduceNeg, reduceCtorEq], by simp only [go_sem, ↓reduceIte, Nat.reduceEqDiff, Nat.reduceLeDiff, Nat.reduceAdd, Nat.reduceMul, Nat.reduceSub, Nat.reduceBEq, Nat.reduceGT, Nat.reduceLT, Int.reduceLE, Int.reduceLT, Int.reduceNeg, reduceCtorEq], by omega, ?_, x9.trans (g10.upto ow x9.size)⟩, by omega⟩
      rw [List.replicate_succ', List.map_append]
      exact o10
    · have hj10 : j = 10 := by omega
      subst hj10
      have c1 : ¬ ((10 : Nat) : Int) < 10 := by omega
      simp only [go_sem, ↓reduceIte, Nat.reduceEqDiff, Nat.reduceLeDiff, Nat.reduceAdd, Nat.reduceMul, Nat.reduceSub, Nat.reduceBEq, Nat.reduceGT, Nat.reduceLT, Int.reduceLE, Int.reduceLT, Int.reduceNeg, reduceCtorEq, c8_L1, r6, r7, r10, r11, c1]
      have hf9 := hf8.ext x9
      have nw9 := nw8.ext x9
      have fl9 := fl8.extO x9
      obtain ⟨mb, lb, hb, pv, dv, p9⟩ := hf9
      have F8lt : ∀ g, F8 g → g < Hc.size := fun g hg => by obtain ⟨_, _, _, _, _, q⟩ := hf8; exact q.lt g hg
      refine FunI.by (F25 p9 ok8 (by omega) (-1) (cuts := List.replicate 10 1099511627776) ow.sl (fun g hg hF => by have := (ow.blk hg).1; have := F8lt g hF; omega)) ?_
      rintro _ H10 ⟨ns, F10, hns, h10, c10⟩
      have nw10 := nw9.ch c10
      have fl10 := fl9.ch c10
      have ok10 := crash_ok ok8 (-1) (List.replicate 10 1099511627776) ns
      obtain ⟨z1, z2, z3, z4, z5, z6, _⟩ := crash_ops s8 (-1) (List.replicate 10 1099511627776) ns
      have hlen : ns.length ≤ 8 := names8_len hns fun n hn => hn8 n (by rw [← wh8] at hn; unfold viewS; simpa using hn)
      have hv10 : viewS (crashS s8 (-1) (List.replicate 10 1099511627776) ns) = lkp L8 := by
        rw [crash_all ok8 wh8 hns fun k hk => by rw [List.getD_eq_getElem?_getD, List.getElem?_replicate, if_pos (by omega)]; rfl, hv8]
      simp only [go_sem, ↓reduceIte, Nat.reduceEqDiff, Nat.reduceLeDiff, Nat.reduceAdd, Nat.reduceMul, Nat.reduceSub, Nat.reduceBEq, Nat.reduceGT, Nat.reduceLT, Int.reduceLE, Int.reduceLT, Int.reduceNeg, reduceCtorEq, r6, r7]
      refine FunI.by (F29 h10) ?_
      rintro _ _ ⟨rfl, rfl⟩
      simp only [go_sem, ↓reduceIte, Nat.reduceEqDiff, Nat.reduceLeDiff, Nat.reduceAdd, Nat.reduceMul, Nat.reduceSub, Nat.reduceBEq, Nat.reduceGT, Nat.reduceLT, Int.reduceLE, Int.reduceLT, Int.reduceNeg, reduceCtorEq, r6, r7, z3]
      refine FunI.by (F24 h10) ?_
      rintro _ _ ⟨rfl, rfl⟩
      rw [z5]
      have z0 : ((0 : Nat) : Int) = 0 := rfl
      simp only [go_sem, ↓reduceIte, Nat.reduceEqDiff, Nat.reduceLeDiff, Nat.reduceAdd, Nat.reduceMul, Nat.reduceSub, Nat.reduceBEq, Nat.reduceGT, Nat.reduceLT, Int.reduceLE, Int.reduceLT, Int.reduceNeg, reduceCtorEq, r6, r7, z0]
      refine FunI.by (F19 h10 ok10 (by rw [z1]; omega) z3 fl10 nd8 hv10 (fun y hy => ⟨(hb8 y hy).1, by have := (hb8 y hy).2; omega⟩) (by omega)) ?_
      rintro _ H11 ⟨rfl, x11⟩
      simp only [go_sem, ↓reduceIte, Nat.reduceEqDiff, Nat.reduceLeDiff, Nat.reduceAdd, Nat.reduceMul, Nat.reduceSub, Nat.reduceBEq, Nat.reduceGT, Nat.reduceLT, Int.reduceLE, Int.reduceLT, Int.reduceNeg, reduceCtorEq]
      exact (nw10.ext x11).1
end Go.Proofs.Ytmkheogjnlmkdaa
