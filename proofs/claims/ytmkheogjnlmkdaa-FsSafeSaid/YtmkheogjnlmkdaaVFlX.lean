/- The law FsSafe, over heaps. -/
import Derived.Test.YtmkheogjnlmkdaaVFlW
import Derived.Test.YtmkheogjnlmkdaaVRowG
set_option linter.unusedSimpArgs false
set_option linter.unusedVariables false
set_option maxRecDepth 20000
namespace Go.Proofs.Ytmkheogjnlmkdaa
open Go Go.V Go.ChangeShapes Go.WideShapes Go.ChangeAt Go.RowKit
-- 7: pith/pithlaw8.FsSafe
-- 11: pith/pithlaw8.first
-- 35: pith/pithlaw8.settled
-- 37: pith/pithlaw8.prefix
-- 48: pith/pithref.SameBytes
-- 36: pith/pithref.Files
-- 22: pith/pithlaw8.num
-- 15: pith/pithlaw8.has
-- 14: pith/pithlaw8.does
-- 17: pith/pithlaw8.plain
-- 28: (*pith/fs.FS).Arm
-- 25: (*pith/fs.FS).Crash
-- 33: (*pith/fs.FS).Names
-- 31: (*pith/fs.FS).Read
-- 29: (*pith/fs.FS).Power
-- 24: (*pith/fs.FS).Pending
-- 3: int
-- 30: pithlaw8.Step
-- 5: uint8
-- 9: string
-- 34: []uint8
-- 44: pith/api.File
theorem F37 {H : Heap} {v u : Value} {xs ys : List Int} (hv : Ints H 5 .u8 v xs) (hu : Ints H 5 .u8 u ys) (hx : Byt xs) (hp : xs <+: ys) :
    Fun Try.prog 37 #[v, u] H (fun r H' => r = .bool true ∧ H = H') := by
  obtain ⟨a, c, rfl⟩ := hv.form
  obtain ⟨a', c', rfl⟩ := hu.form
  obtain ⟨zs, rfl⟩ := hp
  refine fun_of mixed (args := [_, _]) Try.func37 Try.ntmps37 b37 r37 rfl ?_
  have hcap := Sl.lecap hu
  have hl : (xs ++ zs).length = xs.length + zs.length := List.length_append
  have c1 : (xs.length : Int) ≤ ((xs ++ zs).length : Int) := by omega
  have c2 : (0 : Int) ≤ (xs.length : Int) := by omega
  have c3 : (xs.length : Int) ≤ c' := by omega
  have eadd : (if c' = 0 then a' else Option.map (fun x => x) a') = a' := by split; rfl; cases a' <;> rfl
  have hc := cut_ints hu
  simp only [go_sem, ↓reduceIte, Nat.reduceEqDiff, Nat.reduceLeDiff, Nat.reduceAdd, Nat.reduceMul, Nat.reduceSub, Nat.reduceBEq, Nat.reduceGT, Nat.reduceLT, Int.reduceLE, Int.reduceLT, Int.reduceNeg, reduceCtorEq, c1, c2, c3, eadd, Int.toNat_natCast]
  refine FunI.by (F48 _ _ xs xs H hv hc hx hx) ?_
  rintro _ _ ⟨rfl, rfl⟩
  simp only [go_sem, ↓reduceIte, Nat.reduceEqDiff, Nat.reduceLeDiff, Nat.reduceAdd, Nat.reduceMul, Nat.reduceSub, Nat.reduceBEq, Nat.reduceGT, Nat.reduceLT, Int.reduceLE, Int.reduceLT, Int.reduceNeg, reduceCtorEq, decide_true]
set_option maxHeartbeats 12800000 in
theorem F7 (v0 : Value) (os : List Stp) (v1 : Value) (ms : List Stp) (k dir : Int) (v4 : Value) (cuts : List Int) (H : Heap) (hv0 : Steps H v0 os) (hf : ∀ t ∈ os, 0 ≤ t.fill ∧ t.fill < 256) (hv1 : Steps H v1 ms) (hm : ∀ t ∈ ms, 0 ≤ t.fill ∧ t.fill < 256)
    (hk : IntR .i64 k) (hd : IntR .i64 dir) (hv4 : Ints H 3 .i64 v4 cuts) (hcr : ∀ y ∈ cuts, IntR .i64 y) :
    Fun Try.prog 7 #[v0, v1, .int .i64 k, .int .i64 dir, v4] H (fun r H' => r = .bool true ∧ Ext H H') := by
  replace hk : k < 9223372036854775808 := (i64_rng hk).2
  obtain ⟨a0, c0', rfl⟩ := steps_form hv0
  obtain ⟨a, c, rfl⟩ := steps_form hv1
  obtain ⟨a4, c4, rfl⟩ := hv4.form
  refine fun_of mixed (args := [_, _, _, _, _]) Try.func7 Try.ntmps7 b7 r7 rfl ?_
  simp only [go_sem, ↓reduceIte, Nat.reduceEqDiff, Nat.reduceLeDiff, Nat.reduceAdd, Nat.reduceMul, Nat.reduceSub, Nat.reduceBEq, Nat.reduceGT, Nat.reduceLT, Int.reduceLE, Int.reduceLT, Int.reduceNeg, reduceCtorEq]
  refine FunI.by (F11 H) ?_
  rintro _ H1 ⟨rfl, x1⟩
  simp only [go_sem, ↓reduceIte, Nat.reduceEqDiff, Nat.reduceLeDiff, Nat.reduceAdd, Nat.reduceMul, Nat.reduceSub, Nat.reduceBEq, Nat.reduceGT, Nat.reduceLT, Int.reduceLE, Int.reduceLT, Int.reduceNeg, reduceCtorEq]
  refine FunI.by (F35 _ os H1 (Sl.ext hv0 x1) hf) ?_
  rintro _ H2 ⟨b, s, F, L, fv, rfl, h2, ok, hoff, hfu, hops, hq, hfl, nd, hview, hL, hLb, nw0⟩
  have nw : Newly H H2 F := ⟨x1.trans (nw0.1.mono x1.size), fun g hg => Nat.le_trans x1.size (nw0.2 g hg)⟩
  clear nw0
  obtain ⟨fa, fc, rfl⟩ := hfl.form
  have safe0 := hq.safe
  rw [hview] at safe0
  by_cases hk0 : (0 : Int) < k
  case' pos =>
    simp only [go_sem, ↓reduceIte, Nat.reduceEqDiff, Nat.reduceLeDiff, Nat.reduceAdd, Nat.reduceMul, Nat.reduceSub, Nat.reduceBEq, Nat.reduceGT, Nat.reduceLT, Int.reduceLE, Int.reduceLT, Int.reduceNeg, reduceCtorEq, ptrOf, hk0]
    refine FunI.by (F28 h2 k) ?_
    rintro _ H3 ⟨rfl, h3, c3⟩
    have e1 : armS s k = ({ s with fuse := k }, 0) := by
      unfold armS; rw [if_neg (by omega), if_neg (by simp [hoff])]
    have ok3 := arm_ok ok (k := k) hk
    rw [e1] at h3 ok3
    have q3 : ∃ (Hc : Heap) (s3 : St), Hc = H3 ∧ FsH Hc F b s3 ∧ Ok s3 ∧ s3.off = false ∧ s3.ops ≤ 500 ∧ SafeF (lkp L) s3 ∧ viewS s3 = lkp L ∧ FilesN Hc (Out F Hc) (.slice fa L.length fc) L ∧ Newly H Hc F :=
      ⟨H3, _, rfl, h3, ok3, hoff, hops, safe_of safe0 rfl rfl rfl rfl rfl, hview, hfl.ch c3, nw.ch c3⟩
    simp only [go_sem, ↓reduceIte, Nat.reduceEqDiff, Nat.reduceLeDiff, Nat.reduceAdd, Nat.reduceMul, Nat.reduceSub, Nat.reduceBEq, Nat.reduceGT, Nat.reduceLT, Int.reduceLE, Int.reduceLT, Int.reduceNeg, reduceCtorEq, ptrOf]
    clear h3 ok3 c3
  case' neg =>
    have q3 : ∃ (Hc : Heap) (s3 : St), Hc = H2 ∧ FsH Hc F b s3 ∧ Ok s3 ∧ s3.off = false ∧ s3.ops ≤ 500 ∧ SafeF (lkp L) s3 ∧ viewS s3 = lkp L ∧ FilesN Hc (Out F Hc) (.slice fa L.length fc) L ∧ Newly H Hc F :=
      ⟨H2, s, rfl, h2, ok, hoff, hops, safe0, hview, hfl, nw⟩
    simp only [go_sem, ↓reduceIte, Nat.reduceEqDiff, Nat.reduceLeDiff, Nat.reduceAdd, Nat.reduceMul, Nat.reduceSub, Nat.reduceBEq, Nat.reduceGT, Nat.reduceLT, Int.reduceLE, Int.reduceLT, Int.reduceNeg, reduceCtorEq, ptrOf, hk0]
  all_goals
    obtain ⟨Hc, s3, eH, h3, ok3, hoff3, hop3, safe3, hv3, fl3, nw3⟩ := q3
    subst eH
    refine FunI.by (F36 _ L Hc fl3 (by omega) (fun x hx => by have := (hLb x hx).2; omega)) ?_
    rintro nv0 H4 ⟨P4, hP4, o4, x4⟩
    have F3lt : ∀ g, F g → g < Hc.size := fun g hg => by obtain ⟨_, _, _, _, _, q⟩ := h3; exact q.lt g hg
    have fn4 : FilesN H4 (Out F H4) nv0 L := hP4 ▸ o4.n fun g h1 h2 => ⟨h2, fun e => by have := F3lt g e; omega⟩
    simp only [go_sem, ↓reduceIte, Nat.reduceEqDiff, Nat.reduceLeDiff, Nat.reduceAdd, Nat.reduceMul, Nat.reduceSub, Nat.reduceBEq, Nat.reduceGT, Nat.reduceLT, Int.reduceLE, Int.reduceLT, Int.reduceNeg, reduceCtorEq, ptrOf]
    refine LoopI.by mixed (fun ρ H' => ∃ (i : Nat) (s : St) (F : Nat → Prop) (M : List Fl) (nv : Value), ρ 1 = .slice a ms.length c ∧ ρ 3 = .int .i64 dir ∧ ρ 4 = .slice a4 cuts.length c4 ∧ ρ 12 = ptrOf b ∧ ρ 13 = .slice fa L.length fc ∧ ρ 14 = nv ∧ ρ 15 = .int .i64 i ∧ i ≤ ms.length ∧ i ≤ 200 ∧
      FsH H' F b s ∧ Ok s ∧ s.off = false ∧ s.ops ≤ 500 + i ∧ SafeF (lkp L) s ∧ FilesN H' (Out F H') (.slice fa L.length fc) L ∧ FilesN H' (Out F H') nv M ∧ Nd M ∧ viewS s = lkp M ∧ M.length ≤ 200 + i ∧ (∀ x ∈ M, Byt x.2 ∧ x.2.length ≤ 50 * (200 + i)) ∧ Newly H H' F) (fun ρ _ => ms.length - (iof (ρ 15)).toNat) ?_ ?_
    · exact ⟨0, s3, F, L, nv0, by simp only [go_sem, ↓reduceIte, Nat.reduceEqDiff, Nat.reduceLeDiff, Nat.reduceAdd, Nat.reduceMul, Nat.reduceSub, Nat.reduceBEq, Nat.reduceGT, Nat.reduceLT, Int.reduceLE, Int.reduceLT, Int.reduceNeg, reduceCtorEq], by simp only [go_sem, ↓reduceIte, Nat.reduceEqDiff, Nat.reduceLeDiff, Nat.reduceAdd, Nat.reduceMul, Nat.reduceSub, Nat.reduceBEq, Nat.reduceGT, Nat.reduceLT, Int.reduceLE, Int.reduceLT, Int.reduceNeg, reduceCtorEq], by simp only [go_sem, ↓reduceIte, Nat.reduceEqDiff, Nat.reduceLeDiff, Nat.reduceAdd, Nat.reduceMul, Nat.reduceSub, Nat.reduceBEq, Nat.reduceGT, Nat.reduceLT, Int.reduceLE, Int.reduceLT, Int.reduceNeg, reduceCtorEq], by simp only [go_sem, ↓reduceIte, Nat.reduceEqDiff, Nat.reduceLeDiff, Nat.reduceAdd, Nat.reduceMul, Nat.reduceSub, Nat.reduceBEq, Nat.reduceGT, Nat.reduceLT, Int.reduceLE, Int.reduceLT, Int.reduceNeg, reduceCtorEq, ptrOf], by simp only [go_sem, ↓reduceIte, Nat.reduceEqDiff, Nat.reduceLeDiff, Nat.reduceAdd, Nat.reduceMul, Nat.reduceSub, Nat.reduceBEq, Nat.reduceGT, Nat.reduceLT, Int.reduceLE, Int.reduceLT, Int.reduceNeg, reduceCtorEq], by simp only [go_sem, ↓reduceIte, Nat.reduceEqDiff, Nat.reduceLeDiff, Nat.reduceAdd, Nat.reduceMul, Nat.reduceSub, Nat.reduceBEq, Nat.reduceGT, Nat.reduceLT, Int.reduceLE, Int.reduceLT, Int.reduceNeg, reduceCtorEq], by simp only [go_sem, ↓reduceIte, Nat.reduceEqDiff, Nat.reduceLeDiff, Nat.reduceAdd, Nat.reduceMul, Nat.reduceSub, Nat.reduceBEq, Nat.reduceGT, Nat.reduceLT, Int.reduceLE, Int.reduceLT, Int.reduceNeg, reduceCtorEq] <;> rfl, by omega, by omega,
        h3.ext x4, ok3, hoff3, by omega, safe3, fl3.extO x4, fn4, nd, hv3, by omega, fun y hy => ⟨(hLb y hy).1, by have := (hLb y hy).2; omega⟩, nw3.ext x4⟩
    clear h3 ok3 hoff3 hop3 safe3 hv3 fl3 nw3 o4 x4 fn4 hP4 F3lt h2 ok hoff hfu hops hq hfl nw
    rintro ρ H' ⟨i, s, F, M, nv, e1, e3, e4, e12, e13, e14, e15, hi, hi3, hfs, ok, hoff, hops, hsf, hfl, hml, ndm, hview, hM, hMb, nw⟩
    by_cases hlt : i < ms.length ∧ i < 200
    case' pos =>
      obtain ⟨hl1, hl2⟩ := hlt
      obtain ⟨t, hti⟩ : ∃ t, ms[i]? = some t := ⟨_, List.getElem?_eq_getElem hl1⟩
      have htf := hm t (List.mem_of_getElem? hti)
      have hst : ∀ {G : Heap}, Ext H G → Steps G (.slice a ms.length c) ms := fun x => Sl.ext hv1 x
      obtain ⟨g, o, rfl, _⟩ := steps_at (hst nw.1) hti
      have sg : ∀ {G : Heap}, Ext H G → hget G g (o + i * 5) = some (.int .i64 t.kind) ∧ hget G g (o + i * 5 + 1) = some (.int .i64 t.i) ∧ hget G g (o + i * 5 + 2) = some (.int .i64 t.k) ∧ hget G g (o + i * 5 + 3) = some (.int .i64 t.many) ∧ hget G g (o + i * 5 + 4) = some (.int .u8 t.fill) := fun x => by
        obtain ⟨g', o', e, h⟩ := steps_at (hst x) hti
        cases e
        exact h
      obtain ⟨k0, k1, k2, k3, k4⟩ := sg nw.1
      have c0 : (0 : Int) ≤ i := by omega
      have c1 : (i : Int) < ms.length := by omega
      have c2 : (i : Int) < 200 := by omega
      have w2 : IntKind.i64.wrap ((i : Int) + 1) = ((i + 1 : Nat) : Int) := by rw [w64_id (by omega) (by omega)]; omega
      by_cases hk45 : t.kind = 4 ∨ t.kind = 5
      case' pos =>
        have up : ∀ y ∈ M, Byt y.2 ∧ y.2.length ≤ 50 * (200 + (i + 1)) := fun y hy => ⟨(hMb y hy).1, by have := (hMb y hy).2; omega⟩
        rcases hk45 with hk4 | hk5
        · rw [hk4] at k0
          simp only [go_sem, ↓reduceIte, Nat.reduceEqDiff, Nat.reduceLeDiff, Nat.reduceAdd, Nat.reduceMul, Nat.reduceSub, Nat.reduceBEq, Nat.reduceGT, Nat.reduceLT, Int.reduceLE, Int.reduceLT, Int.reduceNeg, reduceCtorEq, c7_L0, e1, e3, e4, e12, e13, e14, e15, c0, c1, c2, Int.toNat_natCast, k0, w2, Int.reduceEq]
          exact ⟨Hold.mk ⟨i + 1, s, F, M, nv, by simp only [go_sem, ↓reduceIte, Nat.reduceEqDiff, Nat.reduceLeDiff, Nat.reduceAdd, Nat.reduceMul, Nat.reduceSub, Nat.reduceBEq, Nat.reduceGT, Nat.reduceLT, Int.reduceLE, Int.reduceLT, Int.reduceNeg, reduceCtorEq, e1], by simp only [go_sem, ↓reduceIte, Nat.reduceEqDiff, Nat.reduceLeDiff, Nat.reduceAdd, Nat.reduceMul, Nat.reduceSub, Nat.reduceBEq, Nat.reduceGT, Nat.reduceLT, Int.reduceLE, Int.reduceLT, Int.reduceNeg, reduceCtorEq, e3], by simp only [go_sem, ↓reduceIte, Nat.reduceEqDiff, Nat.reduceLeDiff, Nat.reduceAdd, Nat.reduceMul, Nat.reduceSub, Nat.reduceBEq, Nat.reduceGT, Nat.reduceLT, Int.reduceLE, Int.reduceLT, Int.reduceNeg, reduceCtorEq, e4], by simp only [go_sem, ↓reduceIte, Nat.reduceEqDiff, Nat.reduceLeDiff, Nat.reduceAdd, Nat.reduceMul, Nat.reduceSub, Nat.reduceBEq, Nat.reduceGT, Nat.reduceLT, Int.reduceLE, Int.reduceLT, Int.reduceNeg, reduceCtorEq, e12], by simp only [go_sem, ↓reduceIte, Nat.reduceEqDiff, Nat.reduceLeDiff, Nat.reduceAdd, Nat.reduceMul, Nat.reduceSub, Nat.reduceBEq, Nat.reduceGT, Nat.reduceLT, Int.reduceLE, Int.reduceLT, Int.reduceNeg, reduceCtorEq, e13], by simp only [go_sem, ↓reduceIte, Nat.reduceEqDiff, Nat.reduceLeDiff, Nat.reduceAdd, Nat.reduceMul, Nat.reduceSub, Nat.reduceBEq, Nat.reduceGT, Nat.reduceLT, Int.reduceLE, Int.reduceLT, Int.reduceNeg, reduceCtorEq, e14], by simp only [go_sem, ↓reduceIte, Nat.reduceEqDiff, Nat.reduceLeDiff, Nat.reduceAdd, Nat.reduceMul, Nat.reduceSub, Nat.reduceBEq, Nat.reduceGT, Nat.reduceLT, Int.reduceLE, Int.reduceLT, Int.reduceNeg, reduceCtorEq], by omega, by omega, hfs, ok, hoff, by omega, hsf, hfl, hml, ndm, hview, by omega, up, nw⟩, by omega⟩
        · rw [hk5] at k0
          simp only [go_sem, ↓reduceIte, Nat.reduceEqDiff, Nat.reduceLeDiff, Nat.reduceAdd, Nat.reduceMul, Nat.reduceSub, Nat.reduceBEq, Nat.reduceGT, Nat.reduceLT, Int.reduceLE, Int.reduceLT, Int.reduceNeg, reduceCtorEq, c7_L0, e1, e3, e4, e12, e13, e14, e15, c0, c1, c2, Int.toNat_natCast, k0, w2, Int.reduceEq]
          exact ⟨Hold.mk ⟨i + 1, s, F, M, nv, by simp only [go_sem, ↓reduceIte, Nat.reduceEqDiff, Nat.reduceLeDiff, Nat.reduceAdd, Nat.reduceMul, Nat.reduceSub, Nat.reduceBEq, Nat.reduceGT, Nat.reduceLT, Int.reduceLE, Int.reduceLT, Int.reduceNeg, reduceCtorEq, e1], by simp only [go_sem, ↓reduceIte, Nat.reduceEqDiff, Nat.reduceLeDiff, Nat.reduceAdd, Nat.reduceMul, Nat.reduceSub, Nat.reduceBEq, Nat.reduceGT, Nat.reduceLT, Int.reduceLE, Int.reduceLT, Int.reduceNeg, reduceCtorEq, e3], by simp only [go_sem, ↓reduceIte, Nat.reduceEqDiff, Nat.reduceLeDiff, Nat.reduceAdd, Nat.reduceMul, Nat.reduceSub, Nat.reduceBEq, Nat.reduceGT, Nat.reduceLT, Int.reduceLE, Int.reduceLT, Int.reduceNeg, reduceCtorEq, e4], by simp only [go_sem, ↓reduceIte, Nat.reduceEqDiff, Nat.reduceLeDiff, Nat.reduceAdd, Nat.reduceMul, Nat.reduceSub, Nat.reduceBEq, Nat.reduceGT, Nat.reduceLT, Int.reduceLE, Int.reduceLT, Int.reduceNeg, reduceCtorEq, e12], by simp only [go_sem, ↓reduceIte, Nat.reduceEqDiff, Nat.reduceLeDiff, Nat.reduceAdd, Nat.reduceMul, Nat.reduceSub, Nat.reduceBEq, Nat.reduceGT, Nat.reduceLT, Int.reduceLE, Int.reduceLT, Int.reduceNeg, reduceCtorEq, e13], by simp only [go_sem, ↓reduceIte, Nat.reduceEqDiff, Nat.reduceLeDiff, Nat.reduceAdd, Nat.reduceMul, Nat.reduceSub, Nat.reduceBEq, Nat.reduceGT, Nat.reduceLT, Int.reduceLE, Int.reduceLT, Int.reduceNeg, reduceCtorEq, e14], by simp only [go_sem, ↓reduceIte, Nat.reduceEqDiff, Nat.reduceLeDiff, Nat.reduceAdd, Nat.reduceMul, Nat.reduceSub, Nat.reduceBEq, Nat.reduceGT, Nat.reduceLT, Int.reduceLE, Int.reduceLT, Int.reduceNeg, reduceCtorEq], by omega, by omega, hfs, ok, hoff, by omega, hsf, hfl, hml, ndm, hview, by omega, up, nw⟩, by omega⟩
      have hn4 : ¬ t.kind = 4 := fun e => hk45 (.inl e)
      have hn5 : ¬ t.kind = 5 := fun e => hk45 (.inr e)
      simp only [go_sem, ↓reduceIte, Nat.reduceEqDiff, Nat.reduceLeDiff, Nat.reduceAdd, Nat.reduceMul, Nat.reduceSub, Nat.reduceBEq, Nat.reduceGT, Nat.reduceLT, Int.reduceLE, Int.reduceLT, Int.reduceNeg, reduceCtorEq, c7_L0, e1, e3, e4, e12, e13, e14, e15, c0, c1, c2, Int.toNat_natCast, hgets5, k0, k1, k2, k3, k4, Option.bind_some, w2, hn4, hn5]
      refine FunI.by (F14 hfs ok (by omega) t htf) ?_
      rintro _ H5 ⟨x, hx, rfl, F5, h5, ch5⟩
      have nw5 := nw.ch ch5
      have fl5 := hfl.ch ch5
      have ml5 := hml.ch ch5
      have ok5 := does_ok ok t hx
      have op := does_ops s t x
      have sf5 := does_safe ok hsf hn4 hn5 hx
      have oL : ∀ g, F5 g → g < H5.size := fun g hg => by obtain ⟨_, _, _, _, _, q⟩ := h5; exact q.lt g hg
      obtain ⟨k0, k1, k2, k3, k4⟩ := sg nw5.1
      have lp := look_plain ndm t
      have ll := plain_len (s := t) hMb
      rcases does_view ok hoff t hx with ⟨he, hvw⟩ | ⟨hs, he0, he81, _⟩
      case' inr =>
        simp only [go_sem, ↓reduceIte, Nat.reduceEqDiff, Nat.reduceLeDiff, Nat.reduceAdd, Nat.reduceMul, Nat.reduceSub, Nat.reduceBEq, Nat.reduceGT, Nat.reduceLT, Int.reduceLE, Int.reduceLT, Int.reduceNeg, reduceCtorEq, e1, e3, e4, e12, e13, e14, e15, c0, c1, c2, he0, he81, w2]
        rw [hs] at h5
        exact ⟨Hold.mk ⟨i + 1, s, F5, M, nv, by simp only [go_sem, ↓reduceIte, Nat.reduceEqDiff, Nat.reduceLeDiff, Nat.reduceAdd, Nat.reduceMul, Nat.reduceSub, Nat.reduceBEq, Nat.reduceGT, Nat.reduceLT, Int.reduceLE, Int.reduceLT, Int.reduceNeg, reduceCtorEq, e1], by simp only [go_sem, ↓reduceIte, Nat.reduceEqDiff, Nat.reduceLeDiff, Nat.reduceAdd, Nat.reduceMul, Nat.reduceSub, Nat.reduceBEq, Nat.reduceGT, Nat.reduceLT, Int.reduceLE, Int.reduceLT, Int.reduceNeg, reduceCtorEq, e3], by simp only [go_sem, ↓reduceIte, Nat.reduceEqDiff, Nat.reduceLeDiff, Nat.reduceAdd, Nat.reduceMul, Nat.reduceSub, Nat.reduceBEq, Nat.reduceGT, Nat.reduceLT, Int.reduceLE, Int.reduceLT, Int.reduceNeg, reduceCtorEq, e4], by simp only [go_sem, ↓reduceIte, Nat.reduceEqDiff, Nat.reduceLeDiff, Nat.reduceAdd, Nat.reduceMul, Nat.reduceSub, Nat.reduceBEq, Nat.reduceGT, Nat.reduceLT, Int.reduceLE, Int.reduceLT, Int.reduceNeg, reduceCtorEq, e12], by simp only [go_sem, ↓reduceIte, Nat.reduceEqDiff, Nat.reduceLeDiff, Nat.reduceAdd, Nat.reduceMul, Nat.reduceSub, Nat.reduceBEq, Nat.reduceGT, Nat.reduceLT, Int.reduceLE, Int.reduceLT, Int.reduceNeg, reduceCtorEq, e13], by simp only [go_sem, ↓reduceIte, Nat.reduceEqDiff, Nat.reduceLeDiff, Nat.reduceAdd, Nat.reduceMul, Nat.reduceSub, Nat.reduceBEq, Nat.reduceGT, Nat.reduceLT, Int.reduceLE, Int.reduceLT, Int.reduceNeg, reduceCtorEq, e14], by simp only [go_sem, ↓reduceIte, Nat.reduceEqDiff, Nat.reduceLeDiff, Nat.reduceAdd, Nat.reduceMul, Nat.reduceSub, Nat.reduceBEq, Nat.reduceGT, Nat.reduceLT, Int.reduceLE, Int.reduceLT, Int.reduceNeg, reduceCtorEq], by omega, by omega, h5, ok, hoff, by omega, hsf, fl5, ml5, ndm, hview, by omega, fun y hy => ⟨(hMb y hy).1, by have := (hMb y hy).2; omega⟩, nw5⟩, by omega⟩
      rcases he with he | he
      case' inl =>
        simp only [go_sem, ↓reduceIte, Nat.reduceEqDiff, Nat.reduceLeDiff, Nat.reduceAdd, Nat.reduceMul, Nat.reduceSub, Nat.reduceBEq, Nat.reduceGT, Nat.reduceLT, Int.reduceLE, Int.reduceLT, Int.reduceNeg, reduceCtorEq, he, e1, e3, e4, e12, e13, e14, e15, c0, c1, c2, Int.toNat_natCast, hgets5, k0, k1, k2, k3, k4, Option.bind_some, Int.reduceEq]
        refine FunI.by (F17 ml5 (fun g hg => hg.1) (by omega) (fun y hy => by have := (hMb y hy).2; omega) t htf) ?_
        rintro nv' H6 ⟨fl6, x6⟩
        have ml6 : FilesN H6 (Out F5 H6) nv' (plainS M t) := fl6.more (Gr.out oL x6)
        simp only [go_sem, ↓reduceIte, Nat.reduceEqDiff, Nat.reduceLeDiff, Nat.reduceAdd, Nat.reduceMul, Nat.reduceSub, Nat.reduceBEq, Nat.reduceGT, Nat.reduceLT, Int.reduceLE, Int.reduceLT, Int.reduceNeg, reduceCtorEq, e1, e3, e4, e12, e13, e14, e15, w2, Int.reduceEq]
        exact ⟨Hold.mk ⟨i + 1, _, F5, _, nv', by simp only [go_sem, ↓reduceIte, Nat.reduceEqDiff, Nat.reduceLeDiff, Nat.reduceAdd, Nat.reduceMul, Nat.reduceSub, Nat.reduceBEq, Nat.reduceGT, Nat.reduceLT, Int.reduceLE, Int.reduceLT, Int.reduceNeg, reduceCtorEq, e1], by simp only [go_sem, ↓reduceIte, Nat.reduceEqDiff, Nat.reduceLeDiff, Nat.reduceAdd, Nat.reduceMul, Nat.reduceSub, Nat.reduceBEq, Nat.reduceGT, Nat.reduceLT, Int.reduceLE, Int.reduceLT, Int.reduceNeg, reduceCtorEq, e3], by simp only [go_sem, ↓reduceIte, Nat.reduceEqDiff, Nat.reduceLeDiff, Nat.reduceAdd, Nat.reduceMul, Nat.reduceSub, Nat.reduceBEq, Nat.reduceGT, Nat.reduceLT, Int.reduceLE, Int.reduceLT, Int.reduceNeg, reduceCtorEq, e4], by simp only [go_sem, ↓reduceIte, Nat.reduceEqDiff, Nat.reduceLeDiff, Nat.reduceAdd, Nat.reduceMul, Nat.reduceSub, Nat.reduceBEq, Nat.reduceGT, Nat.reduceLT, Int.reduceLE, Int.reduceLT, Int.reduceNeg, reduceCtorEq, e12], by simp only [go_sem, ↓reduceIte, Nat.reduceEqDiff, Nat.reduceLeDiff, Nat.reduceAdd, Nat.reduceMul, Nat.reduceSub, Nat.reduceBEq, Nat.reduceGT, Nat.reduceLT, Int.reduceLE, Int.reduceLT, Int.reduceNeg, reduceCtorEq, e13], by simp only [go_sem, ↓reduceIte, Nat.reduceEqDiff, Nat.reduceLeDiff, Nat.reduceAdd, Nat.reduceMul, Nat.reduceSub, Nat.reduceBEq, Nat.reduceGT, Nat.reduceLT, Int.reduceLE, Int.reduceLT, Int.reduceNeg, reduceCtorEq], by simp only [go_sem, ↓reduceIte, Nat.reduceEqDiff, Nat.reduceLeDiff, Nat.reduceAdd, Nat.reduceMul, Nat.reduceSub, Nat.reduceBEq, Nat.reduceGT, Nat.reduceLT, Int.reduceLE, Int.reduceLT, Int.reduceNeg, reduceCtorEq], by omega, by omega, h5.ext x6, ok5, does_on0 hoff he, by omega, sf5, fl5.extO x6, ml6, lp.2, by rw [hvw, hview, lp.1], by omega, fun y hy => ⟨(ll.1 y hy).1, by have := (ll.1 y hy).2; omega⟩, nw5.ext x6⟩, by omega⟩
      rcases Classical.em (t.kind < 3) with hk3 | hk3
      case' inl =>
        simp only [go_sem, ↓reduceIte, Nat.reduceEqDiff, Nat.reduceLeDiff, Nat.reduceAdd, Nat.reduceMul, Nat.reduceSub, Nat.reduceBEq, Nat.reduceGT, Nat.reduceLT, Int.reduceLE, Int.reduceLT, Int.reduceNeg, reduceCtorEq, he, e1, e3, e4, e12, e13, e14, e15, c0, c1, c2, Int.toNat_natCast, hgets5, k0, k1, k2, k3, k4, Option.bind_some, Int.reduceEq, hk3]
        refine FunI.by (F17 ml5 (fun g hg => hg.1) (by omega) (fun y hy => by have := (hMb y hy).2; omega) t htf) ?_
        rintro nv' H6 ⟨fl6, x6⟩
        have ml6 : FilesN H6 (Out F5 H6) nv' (plainS M t) := fl6.more (Gr.out oL x6)
        have q8 : ∃ (Hc : Heap) (s : St) (F : Nat → Prop) (M : List Fl) (nv : Value), Hc = H6 ∧ nv = nv' ∧ FsH Hc F b s ∧ Ok s ∧ s.ops ≤ 701 ∧ SafeF (lkp L) s ∧ FilesN Hc (Out F Hc) (.slice fa L.length fc) L ∧ FilesN Hc (Out F Hc) nv M ∧ Nd M ∧ viewS s = lkp M ∧ M.length ≤ 401 ∧ (∀ x ∈ M, Byt x.2 ∧ x.2.length ≤ 50 * 401) ∧ Newly H Hc F :=
          ⟨H6, _, F5, _, nv', rfl, rfl, h5.ext x6, ok5, by omega, sf5, fl5.extO x6, ml6, lp.2, by rw [hvw, hview, lp.1], by omega, fun y hy => ⟨(ll.1 y hy).1, by have := (ll.1 y hy).2; omega⟩, nw5.ext x6⟩
        simp only [go_sem, ↓reduceIte, Nat.reduceEqDiff, Nat.reduceLeDiff, Nat.reduceAdd, Nat.reduceMul, Nat.reduceSub, Nat.reduceBEq, Nat.reduceGT, Nat.reduceLT, Int.reduceLE, Int.reduceLT, Int.reduceNeg, reduceCtorEq, e1, e3, e4, e12, e13, e14, e15, w2, Int.reduceEq]
      case' inr =>
        have q8 : ∃ (Hc : Heap) (s : St) (F : Nat → Prop) (M : List Fl) (nv' : Value), Hc = H5 ∧ nv' = nv ∧ FsH Hc F b s ∧ Ok s ∧ s.ops ≤ 701 ∧ SafeF (lkp L) s ∧ FilesN Hc (Out F Hc) (.slice fa L.length fc) L ∧ FilesN Hc (Out F Hc) nv' M ∧ Nd M ∧ viewS s = lkp M ∧ M.length ≤ 401 ∧ (∀ x ∈ M, Byt x.2 ∧ x.2.length ≤ 50 * 401) ∧ Newly H Hc F :=
          ⟨H5, _, F5, M, nv, rfl, rfl, h5, ok5, by omega, sf5, fl5, ml5, ndm, by rw [hvw, plainV_idle (by omega) hn4 hn5, hview], by omega, fun y hy => ⟨(hMb y hy).1, by have := (hMb y hy).2; omega⟩, nw5⟩
        simp only [go_sem, ↓reduceIte, Nat.reduceEqDiff, Nat.reduceLeDiff, Nat.reduceAdd, Nat.reduceMul, Nat.reduceSub, Nat.reduceBEq, Nat.reduceGT, Nat.reduceLT, Int.reduceLE, Int.reduceLT, Int.reduceNeg, reduceCtorEq, he, e1, e3, e4, e12, e13, e14, e15, c0, c1, c2, Int.toNat_natCast, hgets5, k0, k1, k2, k3, k4, Option.bind_some, Int.reduceEq, hk3]
    case' neg =>
      have q8 : ∃ (Hc : Heap) (s : St) (F : Nat → Prop) (M : List Fl) (nv' : Value), Hc = H' ∧ nv' = nv ∧ FsH Hc F b s ∧ Ok s ∧ s.ops ≤ 701 ∧ SafeF (lkp L) s ∧ FilesN Hc (Out F Hc) (.slice fa L.length fc) L ∧ FilesN Hc (Out F Hc) nv' M ∧ Nd M ∧ viewS s = lkp M ∧ M.length ≤ 401 ∧ (∀ x ∈ M, Byt x.2 ∧ x.2.length ≤ 50 * 401) ∧ Newly H Hc F :=
        ⟨H', s, F, M, nv, rfl, rfl, hfs, ok, by omega, hsf, hfl, hml, ndm, hview, by omega, fun y hy => ⟨(hMb y hy).1, by have := (hMb y hy).2; omega⟩, nw⟩
      by_cases hl1 : (i : Int) < ms.length
      case' pos =>
        have hl2 : ¬ (i : Int) < 200 := by omega
        simp only [go_sem, ↓reduceIte, Nat.reduceEqDiff, Nat.reduceLeDiff, Nat.reduceAdd, Nat.reduceMul, Nat.reduceSub, Nat.reduceBEq, Nat.reduceGT, Nat.reduceLT, Int.reduceLE, Int.reduceLT, Int.reduceNeg, reduceCtorEq, c7_L0, e1, e3, e4, e12, e13, e14, e15, hl1, hl2]
      case' neg =>
        simp only [go_sem, ↓reduceIte, Nat.reduceEqDiff, Nat.reduceLeDiff, Nat.reduceAdd, Nat.reduceMul, Nat.reduceSub, Nat.reduceBEq, Nat.reduceGT, Nat.reduceLT, Int.reduceLE, Int.reduceLT, Int.reduceNeg, reduceCtorEq, c7_L0, e1, e3, e4, e12, e13, e14, e15, hl1]
    all_goals
      obtain ⟨Hc, s8, F8, M8, nv8, eH, eV, hf8, ok8, hop8, sf8, fl8, ml8, nd8, hv8, hl8, hb8, nw8⟩ := q8
      subst eH
      subst eV
      obtain ⟨mb, lb, hb, pv, dv, p8⟩ := hf8
      have F8lt := p8.lt
      have cv8 : Ints Hc 3 .i64 (.slice a4 cuts.length c4) cuts := Sl.ext hv4 nw8.1
      refine FunI.by (F25 p8 ok8 (by omega) dir cv8 (fun hne g hg hF => ?_)) ?_
      · have hpos : 0 < cuts.length := List.length_pos_iff.2 hne
        obtain ⟨b4, o4, rfl⟩ := hv4.at hpos
        simp only [blk, Option.some.injEq] at hg
        subst hg
        have := (Sl.lt hv4 hpos).1
        have := nw8.2 _ hF
        omega
      rintro _ H9 ⟨ns, F9, hns, h9, c9⟩
      have nw9 := nw8.ch c9
      have fl9 := fl8.ch c9
      have ml9 := ml8.ch c9
      have ok9 := crash_ok ok8 dir cuts ns
      obtain ⟨z1, z2, z3, z4, z5, z6, _⟩ := crash_ops s8 dir cuts ns
      obtain ⟨cs1, cs2⟩ := crash_safe ok8 sf8 dir cuts ns
      generalize crashS s8 dir cuts ns = s9 at *
      obtain ⟨mb9, lb9, hb9, pv9, dv9, p9⟩ := h9
      simp only [go_sem, ↓reduceIte, Nat.reduceEqDiff, Nat.reduceLeDiff, Nat.reduceAdd, Nat.reduceMul, Nat.reduceSub, Nat.reduceBEq, Nat.reduceGT, Nat.reduceLT, Int.reduceLE, Int.reduceLT, Int.reduceNeg, reduceCtorEq, e1, e3, e4, e12, e13, e14, ptrOf]
      refine FunI.by (F33 p9 ok9 (by omega)) ?_
      rintro v10 H10 ⟨ns10, hns10, o10, x10⟩
      rw [z3] at hns10
      simp only [Bool.false_eq_true, if_false] at hns10
      obtain ⟨a10, c10, rfl⟩ := strs_form o10.sl
      simp only [go_sem, ↓reduceIte, Nat.reduceEqDiff, Nat.reduceLeDiff, Nat.reduceAdd, Nat.reduceMul, Nat.reduceSub, Nat.reduceBEq, Nat.reduceGT, Nat.reduceLT, Int.reduceLE, Int.reduceLT, Int.reduceNeg, reduceCtorEq, e1, e3, e4, e12, e13, e14, ptrOf]
      refine LoopI.by mixed (fun ρ G => ∃ (j : Nat), ρ 12 = ptrOf b ∧ ρ 13 = .slice fa L.length fc ∧ ρ 14 = nv8 ∧ ρ 17 = .slice a10 ns10.length c10 ∧ ρ 18 = .int .i64 j ∧ j ≤ L.length ∧ Ext H10 G) (fun ρ _ => L.length - (iof (ρ 18)).toNat) ?_ ?_
      · exact ⟨0, by simp only [go_sem, ↓reduceIte, Nat.reduceEqDiff, Nat.reduceLeDiff, Nat.reduceAdd, Nat.reduceMul, Nat.reduceSub, Nat.reduceBEq, Nat.reduceGT, Nat.reduceLT, Int.reduceLE, Int.reduceLT, Int.reduceNeg, reduceCtorEq, e12, ptrOf], by simp only [go_sem, ↓reduceIte, Nat.reduceEqDiff, Nat.reduceLeDiff, Nat.reduceAdd, Nat.reduceMul, Nat.reduceSub, Nat.reduceBEq, Nat.reduceGT, Nat.reduceLT, Int.reduceLE, Int.reduceLT, Int.reduceNeg, reduceCtorEq, e13], by simp only [go_sem, ↓reduceIte, Nat.reduceEqDiff, Nat.reduceLeDiff, Nat.reduceAdd, Nat.reduceMul, Nat.reduceSub, Nat.reduceBEq, Nat.reduceGT, Nat.reduceLT, Int.reduceLE, Int.reduceLT, Int.reduceNeg, reduceCtorEq, e14], by simp only [go_sem, ↓reduceIte, Nat.reduceEqDiff, Nat.reduceLeDiff, Nat.reduceAdd, Nat.reduceMul, Nat.reduceSub, Nat.reduceBEq, Nat.reduceGT, Nat.reduceLT, Int.reduceLE, Int.reduceLT, Int.reduceNeg, reduceCtorEq], by simp only [go_sem, ↓reduceIte, Nat.reduceEqDiff, Nat.reduceLeDiff, Nat.reduceAdd, Nat.reduceMul, Nat.reduceSub, Nat.reduceBEq, Nat.reduceGT, Nat.reduceLT, Int.reduceLE, Int.reduceLT, Int.reduceNeg, reduceCtorEq] <;> rfl, by omega, Upto.refl _ _⟩
      rintro ρ2 G ⟨j, r12, r13, r14, r17, r18, hj, xg⟩
      have x9 : Ext H9 G := x10.trans (xg.mono x10.size)
      by_cases hjl : j < L.length
      case' pos =>
        have c0 : (0 : Int) ≤ j := by omega
        have c1 : (j : Int) < L.length := by omega
        have w2 : IntKind.i64.wrap ((j : Int) + 1) = ((j + 1 : Nat) : Int) := by rw [w64_id (by omega) (by omega)]; omega
        obtain ⟨P, hP, rp⟩ := fl9.extO x9
        have hPl : P.length = L.length := by have := congrArg List.length hP; rw [List.length_map] at this; exact this
        obtain ⟨b2, o2, rfl⟩ := rp.at (show j < P.length by omega)
        obtain ⟨⟨w, z⟩, hPj⟩ : ∃ p, P[j]? = some p := ⟨_, List.getElem?_eq_getElem (by omega)⟩
        have hLj : L[j]? = some z := by rw [← hP, List.getElem?_map, hPj]; rfl
        obtain ⟨gs, gd, gi, _⟩ := RecP.e0 rp hPj
        obtain ⟨az, capz, rfl⟩ := Ints.form gi
        have hz : lkp L z.1 = some z.2 := (look_some nd).2 (List.mem_of_getElem? hLj)
        obtain ⟨e, d, he1, hd1, pre1, pre2⟩ := cs1 _ _ hz
        obtain ⟨x, hx, rfl⟩ : ∃ x, s9.now z.1 = some x ∧ s9.dat x = e := by
          unfold viewS at he1
          obtain ⟨x, hx, hxe⟩ := Option.map_eq_some_iff.1 he1
          exact ⟨x, hx, hxe⟩
        have hxh := ok9.nowH _ _ hx
        have hnm := ok9.nowN _ _ hx
        rw [hv8] at hd1
        obtain ⟨q, hq⟩ : ∃ q, hasN M8 z.1 = some q := by
          cases hh : hasN M8 z.1 with
          | none => rw [hasN_none.1 hh] at hd1; cases hd1
          | some q => exact ⟨q, rfl⟩
        have hhas : hasS M8 z.1 = q := by unfold hasS; rw [hq]
        obtain ⟨d', hMq, hd'⟩ := hasN_some hq
        have hdd : d' = d := by rw [hd1] at hd'; exact (Option.some.inj hd').symm
        subst hdd
        have hql := (List.getElem?_eq_some_iff.1 hMq).1
        have hbd := hb8 _ (List.mem_of_getElem? hMq)
        have hle : (s9.dat x).length ≤ 20050 := Nat.le_trans pre2.length_le hbd.2
        have cq0 : (0 : Int) ≤ q := by omega
        have cq1 : ¬ (q : Int) < 0 := by omega
        have cq2 : (q : Int) < M8.length := by omega
        have fs0 : findS s9 z.1 = (some x, 0) := by rw [find_on z3 hnm, hx]
        have er : readS s9 z.1 0 1073741824 = (s9.dat x, 0) := by
          unfold readS
          rw [fs0]
          simp only
          rw [if_neg (by omega)]
          show ((List.drop 0 (s9.dat x)).take 1073741824, (0 : Int)) = _
          rw [List.drop_zero, List.take_of_length_le (by omega)]
        simp only [go_sem, ↓reduceIte, Nat.reduceEqDiff, Nat.reduceLeDiff, Nat.reduceAdd, Nat.reduceMul, Nat.reduceSub, Nat.reduceBEq, Nat.reduceGT, Nat.reduceLT, Int.reduceLE, Int.reduceLT, Int.reduceNeg, reduceCtorEq, c7_L1, r12, r13, r14, r17, r18, c0, c1, Int.toNat_natCast, gs, w2, ptrOf]
        refine FunI.by (F31 (p9.ext x9) ok9 z.1 0 1073741824 (by omega)) ?_
        rintro _ G2 ⟨v4, rfl, o4, y4⟩
        rw [er] at o4 ⊢
        have yy : Ext H9 G2 := x9.trans (y4.mono x9.size)
        obtain ⟨a5, l5, cc5, rfl⟩ := Sl.form o4.sl
        obtain ⟨PM, hPM, rpM⟩ := ml9.extO yy
        have hPMl : PM.length = M8.length := by have := congrArg List.length hPM; rw [List.length_map] at this; exact this
        obtain ⟨am, cm, hmf⟩ := rpM.form
        rw [hPMl] at hmf
        subst hmf
        obtain ⟨b6, o6, rfl⟩ := rpM.at (show q < PM.length by omega)
        obtain ⟨⟨w6, z6'⟩, hPq⟩ : ∃ p, PM[q]? = some p := ⟨_, List.getElem?_eq_getElem (by omega)⟩
        have hz6 : z6' = (z.1, d') := by
          have : M8[q]? = some z6' := by rw [← hPM, List.getElem?_map, hPq]; rfl
          rw [hMq] at this; exact (Option.some.inj this).symm
        subst hz6
        obtain ⟨ms6, md6, mi6, _⟩ := RecP.e0 rpM hPq
        obtain ⟨a6, cap6, rfl⟩ := Ints.form mi6
        simp only [go_sem, ↓reduceIte, Nat.reduceEqDiff, Nat.reduceLeDiff, Nat.reduceAdd, Nat.reduceMul, Nat.reduceSub, Nat.reduceBEq, Nat.reduceGT, Nat.reduceLT, Int.reduceLE, Int.reduceLT, Int.reduceNeg, reduceCtorEq, r12, r13, r14, r17, r18, c0, c1, Int.toNat_natCast, hget_ext y4 gs, w2]
        refine FunI.by (F15 ⟨PM, hPM, rpM⟩ (by omega) z.1) ?_
        rintro _ _ ⟨rfl, rfl⟩
        rw [hhas]
        simp only [go_sem, ↓reduceIte, Nat.reduceEqDiff, Nat.reduceLeDiff, Nat.reduceAdd, Nat.reduceMul, Nat.reduceSub, Nat.reduceBEq, Nat.reduceGT, Nat.reduceLT, Int.reduceLE, Int.reduceLT, Int.reduceNeg, reduceCtorEq]
        refine FunI.by (F22 _ _) ?_
        rintro _ _ ⟨rfl, rfl⟩
        simp only [go_sem, ↓reduceIte, Nat.reduceEqDiff, Nat.reduceLeDiff, Nat.reduceAdd, Nat.reduceMul, Nat.reduceSub, Nat.reduceBEq, Nat.reduceGT, Nat.reduceLT, Int.reduceLE, Int.reduceLT, Int.reduceNeg, reduceCtorEq, r12, r13, r14, r17, r18, c0, c1, cq0, cq1, cq2, Int.toNat_natCast, hget_ext y4 gd, w2, Int.reduceEq]
        refine FunI.by (F37 (gi.ext y4) o4.sl (fun c hc => (hLb z (List.mem_of_getElem? hLj)).1 c hc) pre1) ?_
        rintro _ _ ⟨rfl, rfl⟩
        simp only [go_sem, ↓reduceIte, Nat.reduceEqDiff, Nat.reduceLeDiff, Nat.reduceAdd, Nat.reduceMul, Nat.reduceSub, Nat.reduceBEq, Nat.reduceGT, Nat.reduceLT, Int.reduceLE, Int.reduceLT, Int.reduceNeg, reduceCtorEq, r12, r13, r14, r17, r18, c0, c1, cq0, cq1, cq2, Int.toNat_natCast, md6, w2, Int.reduceEq]
        refine FunI.by (F37 o4.sl mi6 (ok9.byt x hxh) pre2) ?_
        rintro _ _ ⟨rfl, rfl⟩
        simp only [go_sem, ↓reduceIte, Nat.reduceEqDiff, Nat.reduceLeDiff, Nat.reduceAdd, Nat.reduceMul, Nat.reduceSub, Nat.reduceBEq, Nat.reduceGT, Nat.reduceLT, Int.reduceLE, Int.reduceLT, Int.reduceNeg, reduceCtorEq, r12, r13, r14, r17, r18, w2]
        exact ⟨Hold.mk ⟨j + 1, by simp only [go_sem, ↓reduceIte, Nat.reduceEqDiff, Nat.reduceLeDiff, Nat.reduceAdd, Nat.reduceMul, Nat.reduceSub, Nat.reduceBEq, Nat.reduceGT, Nat.reduceLT, Int.reduceLE, Int.reduceLT, Int.reduceNeg, reduceCtorEq, r12], by simp only [go_sem, ↓reduceIte, Nat.reduceEqDiff, Nat.reduceLeDiff, Nat.reduceAdd, Nat.reduceMul, Nat.reduceSub, Nat.reduceBEq, Nat.reduceGT, Nat.reduceLT, Int.reduceLE, Int.reduceLT, Int.reduceNeg, reduceCtorEq, r13], by simp only [go_sem, ↓reduceIte, Nat.reduceEqDiff, Nat.reduceLeDiff, Nat.reduceAdd, Nat.reduceMul, Nat.reduceSub, Nat.reduceBEq, Nat.reduceGT, Nat.reduceLT, Int.reduceLE, Int.reduceLT, Int.reduceNeg, reduceCtorEq, r14], by simp only [go_sem, ↓reduceIte, Nat.reduceEqDiff, Nat.reduceLeDiff, Nat.reduceAdd, Nat.reduceMul, Nat.reduceSub, Nat.reduceBEq, Nat.reduceGT, Nat.reduceLT, Int.reduceLE, Int.reduceLT, Int.reduceNeg, reduceCtorEq, r17], by simp only [go_sem, ↓reduceIte, Nat.reduceEqDiff, Nat.reduceLeDiff, Nat.reduceAdd, Nat.reduceMul, Nat.reduceSub, Nat.reduceBEq, Nat.reduceGT, Nat.reduceLT, Int.reduceLE, Int.reduceLT, Int.reduceNeg, reduceCtorEq], by omega, xg.trans (y4.mono xg.size)⟩, by omega⟩
      have c1 : ¬ (j : Int) < L.length := by omega
      simp only [go_sem, ↓reduceIte, Nat.reduceEqDiff, Nat.reduceLeDiff, Nat.reduceAdd, Nat.reduceMul, Nat.reduceSub, Nat.reduceBEq, Nat.reduceGT, Nat.reduceLT, Int.reduceLE, Int.reduceLT, Int.reduceNeg, reduceCtorEq, c7_L1, r12, r13, r14, r17, r18, c1]
      refine LoopI.by mixed (fun ρ G' => ∃ (q : Nat), ρ 12 = ptrOf b ∧ ρ 14 = nv8 ∧ ρ 17 = .slice a10 ns10.length c10 ∧ ρ 24 = .int .i64 q ∧ q ≤ ns10.length ∧ G = G') (fun ρ _ => ns10.length - (iof (ρ 24)).toNat) ?_ ?_
      · exact ⟨0, by simp only [go_sem, ↓reduceIte, Nat.reduceEqDiff, Nat.reduceLeDiff, Nat.reduceAdd, Nat.reduceMul, Nat.reduceSub, Nat.reduceBEq, Nat.reduceGT, Nat.reduceLT, Int.reduceLE, Int.reduceLT, Int.reduceNeg, reduceCtorEq, r12], by simp only [go_sem, ↓reduceIte, Nat.reduceEqDiff, Nat.reduceLeDiff, Nat.reduceAdd, Nat.reduceMul, Nat.reduceSub, Nat.reduceBEq, Nat.reduceGT, Nat.reduceLT, Int.reduceLE, Int.reduceLT, Int.reduceNeg, reduceCtorEq, r14], by simp only [go_sem, ↓reduceIte, Nat.reduceEqDiff, Nat.reduceLeDiff, Nat.reduceAdd, Nat.reduceMul, Nat.reduceSub, Nat.reduceBEq, Nat.reduceGT, Nat.reduceLT, Int.reduceLE, Int.reduceLT, Int.reduceNeg, reduceCtorEq, r17], by simp only [go_sem, ↓reduceIte, Nat.reduceEqDiff, Nat.reduceLeDiff, Nat.reduceAdd, Nat.reduceMul, Nat.reduceSub, Nat.reduceBEq, Nat.reduceGT, Nat.reduceLT, Int.reduceLE, Int.reduceLT, Int.reduceNeg, reduceCtorEq] <;> rfl, by omega, rfl⟩
      rintro ρ3 _ ⟨q, u12, u14, u17, u24, hq, rfl⟩
      by_cases hql : q < ns10.length
      · obtain ⟨n, hn⟩ : ∃ n, ns10[q]? = some n := ⟨_, List.getElem?_eq_getElem hql⟩
        obtain ⟨g1, o1', rfl, gn⟩ := txts_at (ns := ns10) ((o10.ext xg).sl) hn
        have hmem := List.mem_of_getElem? hn
        have hv9 : viewS s9 n ≠ none := by unfold viewS; have := (hns10.2 n).1 hmem; simpa using this
        have hM := cs2 n hv9
        rw [hv8] at hM
        obtain ⟨i8, hi8⟩ : ∃ i8, hasN M8 n = some i8 := by
          cases hh : hasN M8 n with
          | none => exact absurd (hasN_none.1 hh) hM
          | some i8 => exact ⟨i8, rfl⟩
        have hhas : hasS M8 n = i8 := by unfold hasS; rw [hi8]
        have c0 : (0 : Int) ≤ q := by omega
        have c2 : (q : Int) < ns10.length := by omega
        have c3 : ¬ (i8 : Int) < 0 := by omega
        have w2 : IntKind.i64.wrap ((q : Int) + 1) = ((q + 1 : Nat) : Int) := by
          have h1 := names_len hns10 ok9.nowI ok9.nowH
          have h2 := ok9.hlen
          rw [w64_id (by omega) (by omega)]; omega
        simp only [go_sem, ↓reduceIte, Nat.reduceEqDiff, Nat.reduceLeDiff, Nat.reduceAdd, Nat.reduceMul, Nat.reduceSub, Nat.reduceBEq, Nat.reduceGT, Nat.reduceLT, Int.reduceLE, Int.reduceLT, Int.reduceNeg, reduceCtorEq, c7_L2, u12, u14, u17, u24, c0, c2, Int.toNat_natCast, gn]
        refine FunI.by (F15 (ml9.extO x9) (by omega) n) ?_
        rintro _ _ ⟨rfl, rfl⟩
        rw [hhas]
        simp only [go_sem, ↓reduceIte, Nat.reduceEqDiff, Nat.reduceLeDiff, Nat.reduceAdd, Nat.reduceMul, Nat.reduceSub, Nat.reduceBEq, Nat.reduceGT, Nat.reduceLT, Int.reduceLE, Int.reduceLT, Int.reduceNeg, reduceCtorEq, u12, u14, u17, u24, c3, w2]
        exact ⟨Hold.mk ⟨q + 1, by simp only [go_sem, ↓reduceIte, Nat.reduceEqDiff, Nat.reduceLeDiff, Nat.reduceAdd, Nat.reduceMul, Nat.reduceSub, Nat.reduceBEq, Nat.reduceGT, Nat.reduceLT, Int.reduceLE, Int.reduceLT, Int.reduceNeg, reduceCtorEq, u12], by simp only [go_sem, ↓reduceIte, Nat.reduceEqDiff, Nat.reduceLeDiff, Nat.reduceAdd, Nat.reduceMul, Nat.reduceSub, Nat.reduceBEq, Nat.reduceGT, Nat.reduceLT, Int.reduceLE, Int.reduceLT, Int.reduceNeg, reduceCtorEq, u14], by simp only [go_sem, ↓reduceIte, Nat.reduceEqDiff, Nat.reduceLeDiff, Nat.reduceAdd, Nat.reduceMul, Nat.reduceSub, Nat.reduceBEq, Nat.reduceGT, Nat.reduceLT, Int.reduceLE, Int.reduceLT, Int.reduceNeg, reduceCtorEq, u17], by simp only [go_sem, ↓reduceIte, Nat.reduceEqDiff, Nat.reduceLeDiff, Nat.reduceAdd, Nat.reduceMul, Nat.reduceSub, Nat.reduceBEq, Nat.reduceGT, Nat.reduceLT, Int.reduceLE, Int.reduceLT, Int.reduceNeg, reduceCtorEq], by omega, rfl⟩, by omega⟩
      · have c2 : ¬ (q : Int) < ns10.length := by omega
        simp only [go_sem, ↓reduceIte, Nat.reduceEqDiff, Nat.reduceLeDiff, Nat.reduceAdd, Nat.reduceMul, Nat.reduceSub, Nat.reduceBEq, Nat.reduceGT, Nat.reduceLT, Int.reduceLE, Int.reduceLT, Int.reduceNeg, reduceCtorEq, c7_L2, u12, u14, u17, u24, c2]
        refine FunI.by (F29 ⟨_, _, _, _, _, p9.ext x9⟩) ?_
        rintro _ _ ⟨rfl, rfl⟩
        simp only [go_sem, ↓reduceIte, Nat.reduceEqDiff, Nat.reduceLeDiff, Nat.reduceAdd, Nat.reduceMul, Nat.reduceSub, Nat.reduceBEq, Nat.reduceGT, Nat.reduceLT, Int.reduceLE, Int.reduceLT, Int.reduceNeg, reduceCtorEq, z3, u12]
        refine FunI.by (F24 ⟨_, _, _, _, _, p9.ext x9⟩) ?_
        rintro _ _ ⟨rfl, rfl⟩
        rw [z5]
        have z0 : ((0 : Nat) : Int) = 0 := rfl
        simp only [go_sem, ↓reduceIte, Nat.reduceEqDiff, Nat.reduceLeDiff, Nat.reduceAdd, Nat.reduceMul, Nat.reduceSub, Nat.reduceBEq, Nat.reduceGT, Nat.reduceLT, Int.reduceLE, Int.reduceLT, Int.reduceNeg, reduceCtorEq, z0]
        exact (nw9.ext x9).1
end Go.Proofs.Ytmkheogjnlmkdaa
