/- settled: steps, then each file synced, and the directory. -/
import Derived.Test.YtmkheogjnlmkdaaVFlG
import Derived.Test.YtmkheogjnlmkdaaVFlV
set_option linter.unusedSimpArgs false
set_option linter.unusedVariables false
set_option maxRecDepth 20000
namespace Go.V
open Go
/-- All is synced. -/
structure Quiet (s : St) : Prop where
  syn : ∀ n x, s.now n = some x → s.syn x = (s.dat x).length
  last : s.last = s.now
  pend : s.pend = []
theorem Quiet.safe {s : St} (h : Quiet s) : SafeF (viewS s) s := by
  refine ⟨by rw [h.last]; exact fun _ _ h => h, fun n d hd => ?_, by rw [h.pend]; intro p hp; simp at hp⟩
  unfold viewS at hd
  obtain ⟨x, hx, rfl⟩ := Option.map_eq_some_iff.1 hd
  exact ⟨x, by rw [h.last]; exact hx, List.prefix_refl _, by rw [h.syn n x hx]; exact Nat.le_refl _⟩
/-- One of the files' synced. -/
theorem sync_one {s : St} (hf : s.fuse = 0) (ho : s.off = false) {n : Nm} (hn : isNm n = true) {x : Nat} (hx : s.now n = some x) :
    syncS s n = ({ s with ops := s.ops + 1, syn := setF s.syn x (s.dat x).length }, 0) := by
  unfold syncS
  rw [find_on ho hn, hx]
  simp only
  rw [count0 hf, if_pos rfl]
end Go.V
namespace Go.Proofs.Ytmkheogjnlmkdaa
open Go Go.V
-- 35: pith/pithlaw8.settled
-- 37: pith/pithlaw8.prefix
-- 48: pith/pithref.SameBytes
-- 22: pith/pithlaw8.num
-- 12: pith/fs.New
-- 14: pith/pithlaw8.does
-- 17: pith/pithlaw8.plain
-- 21: (*pith/fs.FS).Sync
-- 34: (*pith/fs.FS).SyncDir
-- 3: int
-- 30: pithlaw8.Step
-- 5: uint8
-- 34: []uint8
-- 44: pith/api.File
set_option maxHeartbeats 6400000 in
theorem F35 (v : Value) (os : List Stp) (H : Heap) (hv : Steps H v os) (hf : ∀ t ∈ os, 0 ≤ t.fill ∧ t.fill < 256) :
    Fun Try.prog 35 #[.int .i64 2147483647, v] H (fun r H' => ∃ b s F L fv, r = .tuple #[ptrOf b, fv] ∧ FsH H' F b s ∧ Ok s ∧ s.off = false ∧ s.fuse = 0 ∧ s.ops ≤ 500 ∧ Quiet s ∧ FilesN H' (Out F H') fv L ∧ Nd L ∧ viewS s = lkp L ∧ L.length ≤ 200 ∧ (∀ x ∈ L, Byt x.2 ∧ x.2.length ≤ 50 * 200) ∧ Newly H H' F) := by
  obtain ⟨a, c, rfl⟩ := steps_form hv
  refine fun_of mixed (args := [_, _]) Try.func35 Try.ntmps35 b35 r35 rfl ?_
  simp only [go_sem, ↓reduceIte, Nat.reduceEqDiff, Nat.reduceLeDiff, Nat.reduceAdd, Nat.reduceMul, Nat.reduceSub, Nat.reduceBEq, Nat.reduceGT, Nat.reduceLT, Int.reduceLE, Int.reduceLT, Int.reduceNeg, reduceCtorEq]
  refine FunI.by (F12 2147483647 H trivial) ?_
  rintro f H2 ⟨x2, h⟩
  rw [if_neg (by omega)] at h
  obtain ⟨b, F, rfl, h2, n2⟩ := h
  have N2 : Newly H H2 F := ⟨x2, n2⟩
  simp only [go_sem, ↓reduceIte, Nat.reduceEqDiff, Nat.reduceLeDiff, Nat.reduceAdd, Nat.reduceMul, Nat.reduceSub, Nat.reduceBEq, Nat.reduceGT, Nat.reduceLT, Int.reduceLE, Int.reduceLT, Int.reduceNeg, reduceCtorEq, ptrOf]
  refine LoopI.by mixed (fun ρ H' => ∃ (i : Nat) (s : St) (F : Nat → Prop) (L : List Fl) (fv : Value), ρ 1 = .slice a os.length c ∧ ρ 6 = ptrOf b ∧ ρ 7 = fv ∧ ρ 8 = .int .i64 i ∧ i ≤ os.length ∧ i ≤ 200 ∧
    FsH H' F b s ∧ Ok s ∧ s.off = false ∧ s.fuse = 0 ∧ s.ops ≤ i ∧ FilesN H' (Out F H') fv L ∧ Nd L ∧ viewS s = lkp L ∧ L.length ≤ i ∧ (∀ x ∈ L, Byt x.2 ∧ x.2.length ≤ 50 * i) ∧ Newly H H' F) (fun ρ _ => os.length - (iof (ρ 8)).toNat) ?_ ?_
  · exact ⟨0, _, F, [], _, by simp only [go_sem, ↓reduceIte, Nat.reduceEqDiff, Nat.reduceLeDiff, Nat.reduceAdd, Nat.reduceMul, Nat.reduceSub, Nat.reduceBEq, Nat.reduceGT, Nat.reduceLT, Int.reduceLE, Int.reduceLT, Int.reduceNeg, reduceCtorEq], by simp only [go_sem, ↓reduceIte, Nat.reduceEqDiff, Nat.reduceLeDiff, Nat.reduceAdd, Nat.reduceMul, Nat.reduceSub, Nat.reduceBEq, Nat.reduceGT, Nat.reduceLT, Int.reduceLE, Int.reduceLT, Int.reduceNeg, reduceCtorEq, ptrOf], by simp only [go_sem, ↓reduceIte, Nat.reduceEqDiff, Nat.reduceLeDiff, Nat.reduceAdd, Nat.reduceMul, Nat.reduceSub, Nat.reduceBEq, Nat.reduceGT, Nat.reduceLT, Int.reduceLE, Int.reduceLT, Int.reduceNeg, reduceCtorEq] <;> rfl, by simp only [go_sem, ↓reduceIte, Nat.reduceEqDiff, Nat.reduceLeDiff, Nat.reduceAdd, Nat.reduceMul, Nat.reduceSub, Nat.reduceBEq, Nat.reduceGT, Nat.reduceLT, Int.reduceLE, Int.reduceLT, Int.reduceNeg, reduceCtorEq] <;> rfl, by omega, by omega,
      h2, fresh_ok (by omega), rfl, rfl, Int.le_refl _, RecN.nil, List.nodup_nil, rfl, Nat.le_refl _, by simp, N2⟩
  clear h2 N2 n2 x2
  rintro ρ H' ⟨i, s, F, L, fv, e1, e6, e7, e8, hi, hi3, hfs, ok, hoff, hfu, hops, hfl, nd, hview, hL, hLb, nw⟩
  by_cases hlt : i < os.length ∧ i < 200
  case pos =>
    obtain ⟨hl1, hl2⟩ := hlt
    obtain ⟨t, hti⟩ : ∃ t, os[i]? = some t := ⟨_, List.getElem?_eq_getElem hl1⟩
    have htf := hf t (List.mem_of_getElem? hti)
    have hst : ∀ {G : Heap}, Ext H G → Steps G (.slice a os.length c) os := fun x => Sl.ext hv x
    obtain ⟨g, o, rfl, _⟩ := steps_at (hst nw.1) hti
    have sg : ∀ {G : Heap}, Ext H G → hget G g (o + i * 5) = some (.int .i64 t.kind) ∧ hget G g (o + i * 5 + 1) = some (.int .i64 t.i) ∧ hget G g (o + i * 5 + 2) = some (.int .i64 t.k) ∧ hget G g (o + i * 5 + 3) = some (.int .i64 t.many) ∧ hget G g (o + i * 5 + 4) = some (.int .u8 t.fill) := fun x => by
      obtain ⟨g', o', e, h⟩ := steps_at (hst x) hti
      cases e
      exact h
    obtain ⟨k0, k1, k2, k3, k4⟩ := sg nw.1
    have c0 : (0 : Int) ≤ i := by omega
    have c1 : (i : Int) < os.length := by omega
    have c2 : (i : Int) < 200 := by omega
    have w2 : IntKind.i64.wrap ((i : Int) + 1) = ((i + 1 : Nat) : Int) := by rw [w64_id (by omega) (by omega)]; omega
    simp only [go_sem, ↓reduceIte, Nat.reduceEqDiff, Nat.reduceLeDiff, Nat.reduceAdd, Nat.reduceMul, Nat.reduceSub, Nat.reduceBEq, Nat.reduceGT, Nat.reduceLT, Int.reduceLE, Int.reduceLT, Int.reduceNeg, reduceCtorEq, c35_L0, e1, e6, e7, e8, c0, c1, c2, Int.toNat_natCast, hgets5, k0, k1, k2, k3, k4, Option.bind_some, w2]
    refine FunI.by (F14 hfs ok (by omega) t htf) ?_
    rintro _ H5 ⟨x, hx, rfl, F5, h5, ch5⟩
    have nw5 := nw.ch ch5
    have fl5 := hfl.ch ch5
    have ok5 := does_ok ok t hx
    have op := does_ops s t x
    have on := does_on hfu hoff t x
    have oL : ∀ g, F5 g → g < H5.size := fun g hg => by obtain ⟨_, _, _, _, _, q⟩ := h5; exact q.lt g hg
    obtain ⟨k0, k1, k2, k3, k4⟩ := sg nw5.1
    rcases does_view ok hoff t hx with ⟨he, hvw⟩ | ⟨hs, he0, he81, _⟩
    · have lp := look_plain nd t
      have ll := plain_len (s := t) hLb
      have he : (doesS s t x).2 = 0 := by rcases he with he | he; exact he; exact absurd he on.2.2
      simp only [go_sem, ↓reduceIte, Nat.reduceEqDiff, Nat.reduceLeDiff, Nat.reduceAdd, Nat.reduceMul, Nat.reduceSub, Nat.reduceBEq, Nat.reduceGT, Nat.reduceLT, Int.reduceLE, Int.reduceLT, Int.reduceNeg, reduceCtorEq, he, e1, e6, e7, e8, c0, c1, c2, Int.toNat_natCast, hgets5, k0, k1, k2, k3, k4, Option.bind_some, Int.reduceEq]
      refine FunI.by (F17 fl5 (fun g hg => hg.1) (by omega) (fun y hy => by have := (hLb y hy).2; omega) t htf) ?_
      rintro fv' H6 ⟨fl6, x6⟩
      have fl7 : FilesN H6 (Out F5 H6) fv' (plainS L t) := fl6.more (Gr.out oL x6)
      simp only [go_sem, ↓reduceIte, Nat.reduceEqDiff, Nat.reduceLeDiff, Nat.reduceAdd, Nat.reduceMul, Nat.reduceSub, Nat.reduceBEq, Nat.reduceGT, Nat.reduceLT, Int.reduceLE, Int.reduceLT, Int.reduceNeg, reduceCtorEq, e1, e6, e7, e8, w2, Int.reduceEq]
      exact ⟨Hold.mk ⟨i + 1, _, F5, _, fv', by simp only [go_sem, ↓reduceIte, Nat.reduceEqDiff, Nat.reduceLeDiff, Nat.reduceAdd, Nat.reduceMul, Nat.reduceSub, Nat.reduceBEq, Nat.reduceGT, Nat.reduceLT, Int.reduceLE, Int.reduceLT, Int.reduceNeg, reduceCtorEq, e1], by simp only [go_sem, ↓reduceIte, Nat.reduceEqDiff, Nat.reduceLeDiff, Nat.reduceAdd, Nat.reduceMul, Nat.reduceSub, Nat.reduceBEq, Nat.reduceGT, Nat.reduceLT, Int.reduceLE, Int.reduceLT, Int.reduceNeg, reduceCtorEq, e6], by simp only [go_sem, ↓reduceIte, Nat.reduceEqDiff, Nat.reduceLeDiff, Nat.reduceAdd, Nat.reduceMul, Nat.reduceSub, Nat.reduceBEq, Nat.reduceGT, Nat.reduceLT, Int.reduceLE, Int.reduceLT, Int.reduceNeg, reduceCtorEq], by simp only [go_sem, ↓reduceIte, Nat.reduceEqDiff, Nat.reduceLeDiff, Nat.reduceAdd, Nat.reduceMul, Nat.reduceSub, Nat.reduceBEq, Nat.reduceGT, Nat.reduceLT, Int.reduceLE, Int.reduceLT, Int.reduceNeg, reduceCtorEq], by omega, by omega, h5.ext x6, ok5, on.2.1, on.1, by omega, fl7, lp.2, by rw [hvw, hview, lp.1], by omega, fun y hy => ⟨(ll.1 y hy).1, by have := (ll.1 y hy).2; omega⟩, nw5.ext x6⟩, by omega⟩
    · simp only [go_sem, ↓reduceIte, Nat.reduceEqDiff, Nat.reduceLeDiff, Nat.reduceAdd, Nat.reduceMul, Nat.reduceSub, Nat.reduceBEq, Nat.reduceGT, Nat.reduceLT, Int.reduceLE, Int.reduceLT, Int.reduceNeg, reduceCtorEq, e1, e6, e7, e8, c0, c1, c2, he0, he81, w2]
      rw [hs] at h5
      exact ⟨Hold.mk ⟨i + 1, s, F5, L, fv, by simp only [go_sem, ↓reduceIte, Nat.reduceEqDiff, Nat.reduceLeDiff, Nat.reduceAdd, Nat.reduceMul, Nat.reduceSub, Nat.reduceBEq, Nat.reduceGT, Nat.reduceLT, Int.reduceLE, Int.reduceLT, Int.reduceNeg, reduceCtorEq, e1], by simp only [go_sem, ↓reduceIte, Nat.reduceEqDiff, Nat.reduceLeDiff, Nat.reduceAdd, Nat.reduceMul, Nat.reduceSub, Nat.reduceBEq, Nat.reduceGT, Nat.reduceLT, Int.reduceLE, Int.reduceLT, Int.reduceNeg, reduceCtorEq, e6], by simp only [go_sem, ↓reduceIte, Nat.reduceEqDiff, Nat.reduceLeDiff, Nat.reduceAdd, Nat.reduceMul, Nat.reduceSub, Nat.reduceBEq, Nat.reduceGT, Nat.reduceLT, Int.reduceLE, Int.reduceLT, Int.reduceNeg, reduceCtorEq, e7], by simp only [go_sem, ↓reduceIte, Nat.reduceEqDiff, Nat.reduceLeDiff, Nat.reduceAdd, Nat.reduceMul, Nat.reduceSub, Nat.reduceBEq, Nat.reduceGT, Nat.reduceLT, Int.reduceLE, Int.reduceLT, Int.reduceNeg, reduceCtorEq], by omega, by omega, h5, ok, hoff, hfu, by omega, fl5, nd, hview, by omega, fun y hy => ⟨(hLb y hy).1, by have := (hLb y hy).2; omega⟩, nw5⟩, by omega⟩
  obtain ⟨fa, fc, rfl⟩ := hfl.form
  by_cases hl1 : (i : Int) < os.length
  case' pos =>
    have hl2 : ¬ (i : Int) < 200 := by omega
    simp only [go_sem, ↓reduceIte, Nat.reduceEqDiff, Nat.reduceLeDiff, Nat.reduceAdd, Nat.reduceMul, Nat.reduceSub, Nat.reduceBEq, Nat.reduceGT, Nat.reduceLT, Int.reduceLE, Int.reduceLT, Int.reduceNeg, reduceCtorEq, c35_L0, e1, e6, e7, e8, hl1, hl2]
  case' neg =>
    simp only [go_sem, ↓reduceIte, Nat.reduceEqDiff, Nat.reduceLeDiff, Nat.reduceAdd, Nat.reduceMul, Nat.reduceSub, Nat.reduceBEq, Nat.reduceGT, Nat.reduceLT, Int.reduceLE, Int.reduceLT, Int.reduceNeg, reduceCtorEq, c35_L0, e1, e6, e7, e8, hl1]
  all_goals
    refine LoopI.by mixed (fun ρ G => ∃ (j : Nat) (u : St) (F' : Nat → Prop), ρ 6 = ptrOf b ∧ ρ 7 = .slice fa L.length fc ∧ ρ 10 = .int .i64 j ∧ j ≤ L.length ∧
      FsH G F' b u ∧ Ok u ∧ u.off = false ∧ u.fuse = 0 ∧ u.ops ≤ 200 + j ∧ u.now = s.now ∧ u.dat = s.dat ∧ (∀ q y, q < j → (L[q]?.bind fun z => s.now z.1) = some y → u.syn y = (s.dat y).length) ∧ FilesN G (Out F' G) (.slice fa L.length fc) L ∧ Newly H G F') (fun ρ _ => L.length - (iof (ρ 10)).toNat) ?_ ?_
    · exact ⟨0, s, F, by simp only [go_sem, ↓reduceIte, Nat.reduceEqDiff, Nat.reduceLeDiff, Nat.reduceAdd, Nat.reduceMul, Nat.reduceSub, Nat.reduceBEq, Nat.reduceGT, Nat.reduceLT, Int.reduceLE, Int.reduceLT, Int.reduceNeg, reduceCtorEq, e6], by simp only [go_sem, ↓reduceIte, Nat.reduceEqDiff, Nat.reduceLeDiff, Nat.reduceAdd, Nat.reduceMul, Nat.reduceSub, Nat.reduceBEq, Nat.reduceGT, Nat.reduceLT, Int.reduceLE, Int.reduceLT, Int.reduceNeg, reduceCtorEq, e7], by simp only [go_sem, ↓reduceIte, Nat.reduceEqDiff, Nat.reduceLeDiff, Nat.reduceAdd, Nat.reduceMul, Nat.reduceSub, Nat.reduceBEq, Nat.reduceGT, Nat.reduceLT, Int.reduceLE, Int.reduceLT, Int.reduceNeg, reduceCtorEq] <;> rfl, by omega, hfs, ok, hoff, hfu, by omega, rfl, rfl, fun q y hq => by omega, hfl, nw⟩
    rintro ρ G ⟨j, u, F', r6, r7, r10, hj, hfu', oku, uo, uf, uops, un, ud, us, ufl, unw⟩
    by_cases hjl : j < L.length
    · have c0 : (0 : Int) ≤ j := by omega
      have c1 : (j : Int) < L.length := by omega
      have w2 : IntKind.i64.wrap ((j : Int) + 1) = ((j + 1 : Nat) : Int) := by rw [w64_id (by omega) (by omega)]; omega
      obtain ⟨P, hP, rp⟩ := ufl
      have hPl : P.length = L.length := by have := congrArg List.length hP; rw [List.length_map] at this; exact this
      obtain ⟨b2, o2, rfl⟩ := rp.at (show j < P.length by omega)
      obtain ⟨⟨w, z⟩, hPj⟩ : ∃ p, P[j]? = some p := ⟨_, List.getElem?_eq_getElem (by omega)⟩
      have hLj : L[j]? = some z := by rw [← hP, List.getElem?_map, hPj]; rfl
      obtain ⟨gs, gd, gi, _⟩ := RecP.e0 rp hPj
      have hz : lkp L z.1 = some z.2 := (look_some nd).2 (List.mem_of_getElem? hLj)
      obtain ⟨y, hy⟩ : ∃ y, s.now z.1 = some y := by
        cases hy : s.now z.1 with
        | none => rw [← hview] at hz; unfold viewS at hz; rw [hy] at hz; cases hz
        | some y => exact ⟨y, rfl⟩
      have hnm := ok.nowN _ _ hy
      have hsy := sync_one uf uo hnm (x := y) (by rw [un]; exact hy)
      obtain ⟨mb, lb, hb, pv, dv, p⟩ := hfu'
      simp only [go_sem, ↓reduceIte, Nat.reduceEqDiff, Nat.reduceLeDiff, Nat.reduceAdd, Nat.reduceMul, Nat.reduceSub, Nat.reduceBEq, Nat.reduceGT, Nat.reduceLT, Int.reduceLE, Int.reduceLT, Int.reduceNeg, reduceCtorEq, c35_L1, r6, r7, r10, c0, c1, Int.toNat_natCast, gs, w2]
      refine FunI.by (F21 p oku (by omega) z.1) ?_
      rintro _ G2 ⟨rfl, F2, g2, ch2⟩
      have oku2 := sync_ok oku z.1
      rw [hsy] at g2 oku2 ⊢
      simp only [go_sem, ↓reduceIte, Nat.reduceEqDiff, Nat.reduceLeDiff, Nat.reduceAdd, Nat.reduceMul, Nat.reduceSub, Nat.reduceBEq, Nat.reduceGT, Nat.reduceLT, Int.reduceLE, Int.reduceLT, Int.reduceNeg, reduceCtorEq]
      refine FunI.by (F22 _ _) ?_
      rintro _ _ ⟨rfl, rfl⟩
      have ufl2 : FilesN G2 (Out F2 G2) (.slice (some ⟨b2, o2, none⟩) L.length fc) L := RecN.ch ⟨P, hP, rp⟩ ch2
      simp only [go_sem, ↓reduceIte, Nat.reduceEqDiff, Nat.reduceLeDiff, Nat.reduceAdd, Nat.reduceMul, Nat.reduceSub, Nat.reduceBEq, Nat.reduceGT, Nat.reduceLT, Int.reduceLE, Int.reduceLT, Int.reduceNeg, reduceCtorEq, r6, r7, r10, w2, Int.reduceEq]
      refine ⟨Hold.mk ⟨j + 1, _, F2, by simp only [go_sem, ↓reduceIte, Nat.reduceEqDiff, Nat.reduceLeDiff, Nat.reduceAdd, Nat.reduceMul, Nat.reduceSub, Nat.reduceBEq, Nat.reduceGT, Nat.reduceLT, Int.reduceLE, Int.reduceLT, Int.reduceNeg, reduceCtorEq, r6], by simp only [go_sem, ↓reduceIte, Nat.reduceEqDiff, Nat.reduceLeDiff, Nat.reduceAdd, Nat.reduceMul, Nat.reduceSub, Nat.reduceBEq, Nat.reduceGT, Nat.reduceLT, Int.reduceLE, Int.reduceLT, Int.reduceNeg, reduceCtorEq, r7], by simp only [go_sem, ↓reduceIte, Nat.reduceEqDiff, Nat.reduceLeDiff, Nat.reduceAdd, Nat.reduceMul, Nat.reduceSub, Nat.reduceBEq, Nat.reduceGT, Nat.reduceLT, Int.reduceLE, Int.reduceLT, Int.reduceNeg, reduceCtorEq], by omega, g2, oku2, uo, uf, by show u.ops + 1 ≤ _; omega, un, ud, fun q y' hq hy' => ?_, ufl2, unw.ch ch2⟩, by omega⟩
      show setF u.syn y (u.dat y).length y' = _
      unfold setF
      by_cases e : y' = y
      · rw [if_pos e, ud, e]
      · rw [if_neg e]
        by_cases hqj : q = j
        · subst hqj
          rw [hLj] at hy'
          have : s.now z.1 = some y' := hy'
          rw [hy] at this
          exact absurd (Option.some.inj this).symm e
        · exact us q y' (by omega) hy'
    · have hje : j = L.length := by omega
      subst hje
      have c1 : ¬ ((L.length : Nat) : Int) < L.length := by omega
      obtain ⟨mb, lb, hb, pv, dv, p⟩ := hfu'
      simp only [go_sem, ↓reduceIte, Nat.reduceEqDiff, Nat.reduceLeDiff, Nat.reduceAdd, Nat.reduceMul, Nat.reduceSub, Nat.reduceBEq, Nat.reduceGT, Nat.reduceLT, Int.reduceLE, Int.reduceLT, Int.reduceNeg, reduceCtorEq, c35_L1, r6, r7, r10, c1]
      refine FunI.by (F34 p oku (by omega)) ?_
      rintro _ G2 ⟨rfl, F2, g2, ch2⟩
      have oku2 := syncDir_ok oku
      have hsd : syncDirS u = (settleS { u with ops := u.ops + 1 }, 0) := by
        unfold syncDirS
        rw [if_neg (by simp [uo]), count0 uf, if_pos rfl]
      rw [hsd] at g2 oku2 ⊢
      simp only [go_sem, ↓reduceIte, Nat.reduceEqDiff, Nat.reduceLeDiff, Nat.reduceAdd, Nat.reduceMul, Nat.reduceSub, Nat.reduceBEq, Nat.reduceGT, Nat.reduceLT, Int.reduceLE, Int.reduceLT, Int.reduceNeg, reduceCtorEq]
      refine FunI.by (F22 _ _) ?_
      rintro _ _ ⟨rfl, rfl⟩
      simp only [go_sem, ↓reduceIte, Nat.reduceEqDiff, Nat.reduceLeDiff, Nat.reduceAdd, Nat.reduceMul, Nat.reduceSub, Nat.reduceBEq, Nat.reduceGT, Nat.reduceLT, Int.reduceLE, Int.reduceLT, Int.reduceNeg, reduceCtorEq, r6, r7, Int.reduceEq]
      refine ⟨b, _, F2, L, _, rfl, g2, oku2, uo, uf, by show u.ops + 1 ≤ 500; omega, ⟨fun n x hx => ?_, rfl, rfl⟩, ufl.ch ch2, nd, ?_, by omega, fun y hy => ⟨(hLb y hy).1, by have := (hLb y hy).2; omega⟩, unw.ch ch2⟩
      · have hx : s.now n = some x := by rw [← un]; exact hx
        show u.syn x = (u.dat x).length
        rw [ud]
        have hl : lkp L n = some (s.dat x) := by rw [← hview]; unfold viewS; rw [hx]; rfl
        obtain ⟨q, hq, hqx⟩ := List.getElem_of_mem ((look_some nd).1 hl)
        exact us q x hq (by rw [List.getElem?_eq_getElem hq, hqx]; exact hx)
      · rw [← hview]
        show (fun n => (u.now n).map u.dat) = viewS s
        rw [un, ud]
        rfl
end Go.Proofs.Ytmkheogjnlmkdaa
