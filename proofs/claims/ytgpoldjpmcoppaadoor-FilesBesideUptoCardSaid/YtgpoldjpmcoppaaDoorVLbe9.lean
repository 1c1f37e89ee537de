/- The law FilesBeside, over heaps. -/
import Derived.Test.YtgpoldjpmcoppaaDoorVTwo9
set_option linter.unusedSimpArgs false
set_option linter.unusedVariables false
set_option maxRecDepth 20000
namespace Go.V
open Go
def nmB : Nm := ⟨#[98]⟩
theorem nmB_nm : isNm nmB = true := by decide +kernel
theorem nmAB : nmA ≠ nmB := by decide +kernel
end Go.V
namespace Go.Proofs.YtgpoldjpmcoppaaDoor
open Go Go.V
-- 5: pith/pithlaw9.FilesBeside
-- 9: pith/pithlaw9.first
-- 10: pith/fs.New
-- 11: pith/pithlaw9.clipped
-- 12: pith/pithlaw9.put
-- 24: pith/files.Begin
-- 25: (*pith/files.Writer).Put
-- 26: (*pith/files.Writer).End
-- 17: (*pith/fs.FS).Read
-- 19: pith/pithlaw9.num
-- 14: pith/pithref.SameBytes
-- 27: pith/pithlaw9.sumOf
-- 22: []uint8
-- 23: [][]uint8
-- 5: uint8
/-- Two writers over one file system, another one beside it, two lists handed in. -/
structure Bes (H0 Hh : Heap) (F1 F2 : Nat → Prop) (K b c wa wb : Nat) (s sc : St) (xa xb : WrS) (va vb : Value) (vsa vsb : List Value) (la lb : List (List Int)) : Prop where
  fs : FsH Hh F1 b s
  fc : FsH Hh F2 c sc
  dis : ∀ g, F2 g → ¬ F1 g
  nw : Newly H0 Hh (fun g => F1 g ∨ F2 g)
  ha : WrH Hh wa b xa
  hb : WrH Hh wb b xb
  na : ¬ F1 wa
  nb : ¬ F1 wb
  ne : wa ≠ wb
  Ka : K ≤ wa
  Kb : K ≤ wb
  c2 : ∀ g, F2 g → g ≠ wa ∧ g ≠ wb
  av : AwL Hh (fun g => F1 g ∨ F2 g) K va vsa la
  bv : AwL Hh (fun g => F1 g ∨ F2 g) K vb vsb lb
  hK : H0.size ≤ K
  hK2 : K ≤ Hh.size
section
variable {H0 Hh H' : Heap} {F1 F2 F1' F2' : Nat → Prop} {K b c wa wb : Nat} {s s' sc sc' : St} {xa xb x' : WrS} {va vb : Value} {vsa vsb : List Value} {la lb : List (List Int)}
theorem Bes.symm (h : Bes H0 Hh F1 F2 K b c wa wb s sc xa xb va vb vsa vsb la lb) : Bes H0 Hh F1 F2 K b c wb wa s sc xb xa vb va vsb vsa lb la :=
  ⟨h.fs, h.fc, h.dis, h.nw, h.hb, h.ha, h.nb, h.na, h.ne.symm, h.Kb, h.Ka, fun g hg => ⟨(h.c2 g hg).2, (h.c2 g hg).1⟩, h.bv, h.av, h.hK, h.hK2⟩
theorem Bes.step (h : Bes H0 Hh F1 F2 K b c wa wb s sc xa xb va vb vsa vsb la lb) (f : FsH H' F1' b s') (w : WrH H' wa b x') (cx : ChX (· = wa) F1 F1' Hh H') : Bes H0 H' F1' F2 K b c wa wb s' sc x' xb va vb vsa vsb la lb := by
  obtain ⟨f2, d2⟩ := h.fc.otherX cx h.dis fun g hg e => (h.c2 g hg).1 e
  have hX : ∀ g, (fun g => g = wa) g → K ≤ g := fun g e => by have : g = wa := e; have := h.Ka; omega
  exact ⟨f, f2, d2, h.nw.chx (cx.orl F2) (fun g e => Nat.le_trans h.hK (hX g e)), w, cx.keep h.hb h.nb h.ne.symm, cx.not (Array.getElem?_eq_some_iff.1 h.ha).1 h.na, cx.not (Array.getElem?_eq_some_iff.1 h.hb).1 h.nb, h.ne, h.Ka, h.Kb, h.c2,
    h.av.keep (cx.orl F2) hX h.hK2, h.bv.keep (cx.orl F2) hX h.hK2, h.hK, Nat.le_trans h.hK2 cx.size⟩
theorem Bes.stepC (h : Bes H0 Hh F1 F2 K b c wa wb s sc xa xb va vb vsa vsb la lb) (f : FsH H' F2' c sc') (cx : ChX (fun _ => False) F2 F2' Hh H') : Bes H0 H' F1 F2' K b c wa wb s sc' xa xb va vb vsa vsb la lb := by
  obtain ⟨f1, d1⟩ := h.fs.otherX cx (fun g hg e => h.dis g e hg) fun g _ e => e
  have la1 := (Array.getElem?_eq_some_iff.1 h.ha).1
  have lb1 := (Array.getElem?_eq_some_iff.1 h.hb).1
  refine ⟨f1, f, fun g hg e => d1 g e hg, h.nw.chx (cx.orr F1) (fun g e => e.elim), cx.keep h.ha (fun e => (h.c2 _ e).1 rfl) (fun e => e), cx.keep h.hb (fun e => (h.c2 _ e).2 rfl) (fun e => e), h.na, h.nb, h.ne, h.Ka, h.Kb, fun g hg => ?_,
    h.av.keep (cx.orr F1) (fun g e => e.elim) h.hK2, h.bv.keep (cx.orr F1) (fun g e => e.elim) h.hK2, h.hK, Nat.le_trans h.hK2 cx.size⟩
  rcases cx.old g hg with e | e
  · exact h.c2 g e
  · omega
theorem Bes.ext (h : Bes H0 Hh F1 F2 K b c wa wb s sc xa xb va vb vsa vsb la lb) (x : Ext Hh H') : Bes H0 H' F1 F2 K b c wa wb s sc xa xb va vb vsa vsb la lb :=
  ⟨h.fs.ext x, h.fc.ext x, h.dis, h.nw.ext x, x.old h.ha, x.old h.hb, h.na, h.nb, h.ne, h.Ka, h.Kb, h.c2, h.av.keep (X := fun _ => False) x.chx (fun _ e => e.elim) h.hK2, h.bv.keep (X := fun _ => False) x.chx (fun _ e => e.elim) h.hK2, h.hK, Nat.le_trans h.hK2 x.size⟩
end
theorem take_all {α : Type} {l : List α} {i : Nat} (h : l.length ≤ i) : l.take (i + 1) = l.take i := by rw [List.take_of_length_le (by omega), List.take_of_length_le h]
theorem row_small {l : List (List Int)} (h2 : ∀ x ∈ l, x.length ≤ 1024) (h3 : l.length ≤ 40) (i : Nat) : (rowB (rowI [] (l.take i))).length ≤ 42476 := by
  have := rowI_len (hd := []) (l := l.take i) (by simp) fun x hx => h2 x (List.mem_of_mem_take hx)
  have h9 : (l.take i).length ≤ 40 := by simp; omega
  have : ((l.take i).length + 1) * 1036 ≤ 41 * 1036 := Nat.mul_le_mul_right _ (by omega)
  omega
set_option maxHeartbeats 6400000 in
theorem F5 (u : Value) (l1 : List (List Int)) (v : Value) (l2 : List (List Int)) (H : Heap) (hu : Lists H 22 5 u l1) (hbu : ∀ x ∈ l1, Byt x) (hv : Lists H 22 5 v l2) (hbl : ∀ x ∈ l2, Byt x) (ht : CrcTab H) (hl1 : l1.length ≤ 1048576) (hl2 : l2.length ≤ 1048576) :
    Fun Tryd.prog 5 #[u, v] H (fun r H' => r = .bool true ∧ Ext H H') := by
  obtain ⟨ua, uc, rfl⟩ := hu.form
  obtain ⟨va, vc, rfl⟩ := hv.form
  refine fun_of mixed (args := [_, _]) Tryd.func5 Tryd.ntmps5 b5 r5 rfl ?_
  simp only [go_sem, ↓reduceIte, Nat.reduceEqDiff, Nat.reduceLeDiff, Nat.reduceAdd, Nat.reduceMul, Nat.reduceSub, Nat.reduceBEq, Nat.reduceGT, Nat.reduceLT, Int.reduceLE, Int.reduceLT, Int.reduceNeg, reduceCtorEq]
  refine FunI.by (F9 H ht) ?_
  rintro _ H1 ⟨rfl, x1⟩
  simp only [go_sem, ↓reduceIte, Nat.reduceEqDiff, Nat.reduceLeDiff, Nat.reduceAdd, Nat.reduceMul, Nat.reduceSub, Nat.reduceBEq, Nat.reduceGT, Nat.reduceLT, Int.reduceLE, Int.reduceLT, Int.reduceNeg, reduceCtorEq]
  refine FunI.by (F10 1048576 H1 trivial) ?_
  rintro _ H2 ⟨x2, h⟩
  rw [if_neg (by omega)] at h
  obtain ⟨b, F1, rfl, h2, n2⟩ := h
  have x12 := Upto.ext x1 x1.size x2
  have hs1 := x1.size
  have hs2 := x2.size
  simp only [go_sem, ↓reduceIte, Nat.reduceEqDiff, Nat.reduceLeDiff, Nat.reduceAdd, Nat.reduceMul, Nat.reduceSub, Nat.reduceBEq, Nat.reduceGT, Nat.reduceLT, Int.reduceLE, Int.reduceLT, Int.reduceNeg, reduceCtorEq, ptrOf]
  refine FunI.by (F10 1048576 H2 trivial) ?_
  rintro _ H3 ⟨x3, h⟩
  rw [if_neg (by omega)] at h
  obtain ⟨c, F2, rfl, h3, n3⟩ := h
  have x13 := Upto.ext x12 x12.size x3
  have hs3 := x3.size
  have l2' : ∀ g, F1 g → g < H2.size := fun g hg => FsH.lt h2 hg
  have l3' : ∀ g, F2 g → g < H3.size := fun g hg => FsH.lt h3 hg
  have nG : ∀ g, (F1 g ∨ F2 g) → H.size ≤ g := fun g hg => by
    rcases hg with hg | hg
    · have := n2 g hg; omega
    · have := n3 g hg; omega
  simp only [go_sem, ↓reduceIte, Nat.reduceEqDiff, Nat.reduceLeDiff, Nat.reduceAdd, Nat.reduceMul, Nat.reduceSub, Nat.reduceBEq, Nat.reduceGT, Nat.reduceLT, Int.reduceLE, Int.reduceLT, Int.reduceNeg, reduceCtorEq, ptrOf]
  refine FunI.by (F11 _ l1 x13 hu) ?_
  rintro wu H4 ⟨vsa, owa, haa, x4⟩
  have x14 := Upto.ext x13 x13.size x4
  have hs4 := x4.size
  simp only [go_sem, ↓reduceIte, Nat.reduceEqDiff, Nat.reduceLeDiff, Nat.reduceAdd, Nat.reduceMul, Nat.reduceSub, Nat.reduceBEq, Nat.reduceGT, Nat.reduceLT, Int.reduceLE, Int.reduceLT, Int.reduceNeg, reduceCtorEq, ptrOf]
  refine FunI.by (F11 _ l2 x14 hv) ?_
  rintro wv H5 ⟨vsb, owb, hab, x5⟩
  have x15 := Upto.ext x14 x14.size x5
  have hs5 := x5.size
  have A5 := awl_of (F := fun g => F1 g ∨ F2 g) (owa.ext x5) haa x15 nG (fun g hg => by rcases hg with hg | hg; have := l2' g hg; omega; exact l3' g hg)
  have B5 := awl_of (F := fun g => F1 g ∨ F2 g) owb hab x15 nG (fun g hg => by rcases hg with hg | hg; have := l2' g hg; omega; have := l3' g hg; omega)
  obtain ⟨ca1, ca2, ca3⟩ := clipL_facts hbu
  obtain ⟨cb1, cb2, cb3⟩ := clipL_facts hbl
  have N5 : Newly H H5 (fun g => F1 g ∨ F2 g) := ⟨x15, nG⟩
  have h5 := ((h2.ext x3).ext x4).ext x5
  have h5c := (h3.ext x4).ext x5
  obtain ⟨f5, t5⟩ := N5.stg0 ht
  have p0 : Peace (freshS 1048576) := Peace.fresh (by omega)
  obtain ⟨a, ea⟩ : ∃ z, z = clipL l1 := ⟨_, rfl⟩
  obtain ⟨q, eq⟩ : ∃ z, z = clipL l2 := ⟨_, rfl⟩
  rw [← ea] at A5 ca1 ca2 ca3
  rw [← eq] at B5 cb1 cb2 cb3
  obtain ⟨wua, wuc, rfl⟩ := A5.form
  obtain ⟨wva, wvc, rfl⟩ := B5.form
  have bn : Byt [] := fun c hc => by cases hc
  have d12 : ∀ g, F2 g → ¬ F1 g := fun g h1 h2 => by have := n3 g h1; have := l2' g h2; omega
  clear owa owb haa hab x4 x5 x14 h2 h3
  simp only [go_sem, ↓reduceIte, Nat.reduceEqDiff, Nat.reduceLeDiff, Nat.reduceAdd, Nat.reduceMul, Nat.reduceSub, Nat.reduceBEq, Nat.reduceGT, Nat.reduceLT, Int.reduceLE, Int.reduceLT, Int.reduceNeg, reduceCtorEq, ptrOf]
  refine FunI.by (F24' (p := []) h5 p0.ok (by decide) (fun e => f5 (.inl e)) t5 (n := nmA) Ints.nil bn (by decide) (.inl rfl)) ?_
  rintro _ H6 ⟨fa, hfa, F1', h6, cx6, r6⟩
  obtain ⟨bp1, bp2, bp3, bp4⟩ := begin_peace p0 nmA_nm rfl hfa (hd := []) (by decide) bn (by rw [held_fresh]; decide)
  rw [bp1] at h6 r6
  simp only [if_true] at h6 r6
  obtain ⟨wa, rfl, hwa, hFwa, w6⟩ := r6
  obtain ⟨h6c, d6⟩ := h5c.otherX cx6 d12 (fun _ _ e => e)
  have N6 := N5.chx (cx6.orl F2) (fun _ e => e.elim)
  have A6 := A5.keep (cx6.orl F2) (fun _ e => e.elim) (Nat.le_refl _)
  have B6 := B5.keep (cx6.orl F2) (fun _ e => e.elim) (Nat.le_refl _)
  obtain ⟨f6, t6⟩ := N6.stg0 ht
  have hs6 := cx6.size
  have nAB : (stI (freshS 1048576) nmA fa [] []).now nmB = none := by
    show moveD (fun _ => none) fa nmA nmB = none
    rw [move_ne nmAB.symm (by simp)]
  simp only [go_sem, ↓reduceIte, Nat.reduceEqDiff, Nat.reduceLeDiff, Nat.reduceAdd, Nat.reduceMul, Nat.reduceSub, Nat.reduceBEq, Nat.reduceGT, Nat.reduceLT, Int.reduceLE, Int.reduceLT, Int.reduceNeg, reduceCtorEq, ptrOf]
  refine FunI.by (F24' (p := []) h6 bp2.ok (by show (2 : Int) < _; decide) (fun e => f6 (.inl e)) t6 (n := nmB) Ints.nil bn (by decide) (.inl rfl)) ?_
  rintro _ H7 ⟨fb, hfb, F1'', h7, cx7, r7⟩
  obtain ⟨cp1, cp2, cp3, cp4⟩ := begin_peace bp2 nmB_nm nAB hfb (hd := []) (by decide) bn (by rw [bp3, held_fresh]; show _ ≤ (1048576 : Int); decide)
  rw [cp1] at h7 r7
  simp only [if_true] at h7 r7
  obtain ⟨wb, rfl, hwb, hFwb, w7⟩ := r7
  obtain ⟨h7c, d7⟩ := h6c.otherX cx7 d6 (fun _ _ e => e)
  have N7 := N6.chx (cx7.orl F2) (fun _ e => e.elim)
  have A7 := A6.keep (cx7.orl F2) (fun _ e => e.elim) hs6
  have B7 := B6.keep (cx7.orl F2) (fun _ e => e.elim) hs6
  have hwalt := (Array.getElem?_eq_some_iff.1 w6).1
  have hfab : fa ≠ fb := fun e => hfb (by rw [← e]; exact bp2.ok.nowH _ _ bp4)
  obtain ⟨s2, hs2e⟩ : ∃ z, z = stI (stI (freshS 1048576) nmA fa [] []) nmB fb [] [] := ⟨_, rfl⟩
  have T7 : Two s2 nmA nmB fa fb (rowB (rowI [] (a.take 0))) (rowB (rowI [] (q.take 0))) := by
    rw [hs2e]
    refine ⟨cp2, ?_, cp4, hfab, ?_, setF_same _ _ _, rfl, ?_⟩
    · show moveD (stI (freshS 1048576) nmA fa [] []).now fb nmB nmA = some fa
      rw [move_ne nmAB (by rw [bp4]; simpa using hfab)]
      exact bp4
    · show setF (stI (freshS 1048576) nmA fa [] []).dat fb _ fa = _
      rw [setF_ne _ _ _ hfab]
      exact setF_same _ _ _
    · rw [cp3, bp3, held_fresh]
      simp [rowI]
  have o7 : s2.ops = 4 := by rw [hs2e]; rfl
  rw [← hs2e] at h7
  have G7 : Bes H H7 F1'' F2 H5.size b c wa wb s2 (freshS 1048576) (wrI nmA [] (a.take 0)) (wrI nmB [] (q.take 0)) (.slice wua a.length wuc) (.slice wva q.length wvc) vsa vsb a q :=
    ⟨h7, h7c, d7, N7, cx7.keep w6 hFwa (fun e => e), w7, cx7.not hwalt hFwa, hFwb, by omega, hwa, by omega, fun g hg => ⟨by have := l3' g hg; omega, by have := l3' g hg; omega⟩, A7, B7, x15.size, by have := cx7.size; omega⟩
  clear h7 h7c d7 N7 A7 B7 w6 w7 hFwa hFwb cx7 cx6 h6 h6c d6 N6 A6 B6 f6 t6 h5 h5c N5 A5 B5 f5 t5 bp1 bp2 bp3 bp4 cp1 cp2 cp3 cp4 hs2e nAB
  simp only [go_sem, ↓reduceIte, Nat.reduceEqDiff, Nat.reduceLeDiff, Nat.reduceAdd, Nat.reduceMul, Nat.reduceSub, Nat.reduceBEq, Nat.reduceGT, Nat.reduceLT, Int.reduceLE, Int.reduceLT, Int.reduceNeg, reduceCtorEq, ptrOf]
  repeat (refine FunI.by (F19 _ _) ?_; rintro _ _ ⟨rfl, rfl⟩; simp only [go_sem, ↓reduceIte, Nat.reduceEqDiff, Nat.reduceLeDiff, Nat.reduceAdd, Nat.reduceMul, Nat.reduceSub, Nat.reduceBEq, Nat.reduceGT, Nat.reduceLT, Int.reduceLE, Int.reduceLT, Int.reduceNeg, reduceCtorEq, ptrOf])
  refine LoopI.by mixed (fun ρ H' => ∃ (i : Nat) (F1 : Nat → Prop) (s : St), ρ 0 = .slice wua a.length wuc ∧ ρ 1 = .slice wva q.length wvc ∧ ρ 6 = ptrOf b ∧ ρ 7 = ptrOf c ∧ ρ 8 = ptrOf wa ∧ ρ 10 = ptrOf wb ∧ ρ 12 = .int .i64 i ∧ i ≤ 40 ∧ s.ops ≤ 4 + 2 * i ∧
      Two s nmA nmB fa fb (rowB (rowI [] (a.take i))) (rowB (rowI [] (q.take i))) ∧ Bes H H' F1 F2 H5.size b c wa wb s (freshS 1048576) (wrI nmA [] (a.take i)) (wrI nmB [] (q.take i)) (.slice wua a.length wuc) (.slice wva q.length wvc) vsa vsb a q) (fun ρ _ => 40 - (iof (ρ 12)).toNat) ?_ ?_
  · exact ⟨0, F1'', s2, by simp only [go_sem, ↓reduceIte, Nat.reduceEqDiff, Nat.reduceLeDiff, Nat.reduceAdd, Nat.reduceMul, Nat.reduceSub, Nat.reduceBEq, Nat.reduceGT, Nat.reduceLT, Int.reduceLE, Int.reduceLT, Int.reduceNeg, reduceCtorEq], by simp only [go_sem, ↓reduceIte, Nat.reduceEqDiff, Nat.reduceLeDiff, Nat.reduceAdd, Nat.reduceMul, Nat.reduceSub, Nat.reduceBEq, Nat.reduceGT, Nat.reduceLT, Int.reduceLE, Int.reduceLT, Int.reduceNeg, reduceCtorEq], by simp only [go_sem, ↓reduceIte, Nat.reduceEqDiff, Nat.reduceLeDiff, Nat.reduceAdd, Nat.reduceMul, Nat.reduceSub, Nat.reduceBEq, Nat.reduceGT, Nat.reduceLT, Int.reduceLE, Int.reduceLT, Int.reduceNeg, reduceCtorEq, ptrOf], by simp only [go_sem, ↓reduceIte, Nat.reduceEqDiff, Nat.reduceLeDiff, Nat.reduceAdd, Nat.reduceMul, Nat.reduceSub, Nat.reduceBEq, Nat.reduceGT, Nat.reduceLT, Int.reduceLE, Int.reduceLT, Int.reduceNeg, reduceCtorEq, ptrOf], by simp only [go_sem, ↓reduceIte, Nat.reduceEqDiff, Nat.reduceLeDiff, Nat.reduceAdd, Nat.reduceMul, Nat.reduceSub, Nat.reduceBEq, Nat.reduceGT, Nat.reduceLT, Int.reduceLE, Int.reduceLT, Int.reduceNeg, reduceCtorEq, ptrOf], by simp only [go_sem, ↓reduceIte, Nat.reduceEqDiff, Nat.reduceLeDiff, Nat.reduceAdd, Nat.reduceMul, Nat.reduceSub, Nat.reduceBEq, Nat.reduceGT, Nat.reduceLT, Int.reduceLE, Int.reduceLT, Int.reduceNeg, reduceCtorEq, ptrOf], by simp only [go_sem, ↓reduceIte, Nat.reduceEqDiff, Nat.reduceLeDiff, Nat.reduceAdd, Nat.reduceMul, Nat.reduceSub, Nat.reduceBEq, Nat.reduceGT, Nat.reduceLT, Int.reduceLE, Int.reduceLT, Int.reduceNeg, reduceCtorEq] <;> rfl, by omega, by rw [o7]; omega, T7, G7⟩
  clear G7 T7 o7
  rintro ρ HH ⟨i, Fh, s, e0, e1, e6, e7, e8, e10, e12, hi, hop, T, G⟩
  simp only [ptrOf] at e6 e7 e8 e10
  have w1 : IntKind.i64.wrap ((i : Int) + 1) = ((i + 1 : Nat) : Int) := by rw [w64_id (by omega) (by omega)]; omega
  have rsa := row_small ca2 ca1 i
  have rsb := row_small cb2 cb1 i
  have rsa2 := row_small ca2 ca1 (i + 1)
  have c0 : (0 : Int) ≤ i := by omega
  have tla : (a.take i).length ≤ 40 := by simp; omega
  have tlq : (q.take i).length ≤ 40 := by simp; omega
  by_cases hex : i < a.length ∨ i < q.length
  · -- one round
    have hi39 : i < 40 := by omega
    have fin : ∀ (ρ' : Env) (HH' : Heap) (Fh' : Nat → Prop) (s' : St), ρ' 0 = .slice wua a.length wuc → ρ' 1 = .slice wva q.length wvc → ρ' 6 = ptrOf b → ρ' 7 = ptrOf c → ρ' 8 = ptrOf wa → ρ' 10 = ptrOf wb → ρ' 12 = .int .i64 ((i + 1 : Nat) : Int) → s'.ops ≤ 4 + 2 * (i + 1 : Nat) →
        Two s' nmA nmB fa fb (rowB (rowI [] (a.take (i + 1)))) (rowB (rowI [] (q.take (i + 1)))) → Bes H HH' Fh' F2 H5.size b c wa wb s' (freshS 1048576) (wrI nmA [] (a.take (i + 1))) (wrI nmB [] (q.take (i + 1))) (.slice wua a.length wuc) (.slice wva q.length wvc) vsa vsb a q → _ := fun ρ' HH' Fh' s' r0 r1 r6 r7 r8 r10 r12 hop' T' G' =>
      (⟨i + 1, Fh', s', r0, r1, r6, r7, r8, r10, r12, by omega, hop', T', G'⟩ : ∃ (i : Nat) (F1 : Nat → Prop) (s : St), ρ' 0 = .slice wua a.length wuc ∧ ρ' 1 = .slice wva q.length wvc ∧ ρ' 6 = ptrOf b ∧ ρ' 7 = ptrOf c ∧ ρ' 8 = ptrOf wa ∧ ρ' 10 = ptrOf wb ∧ ρ' 12 = .int .i64 i ∧ i ≤ 40 ∧ s.ops ≤ 4 + 2 * i ∧
      Two s nmA nmB fa fb (rowB (rowI [] (a.take i))) (rowB (rowI [] (q.take i))) ∧ Bes H HH' F1 F2 H5.size b c wa wb s (freshS 1048576) (wrI nmA [] (a.take i)) (wrI nmB [] (q.take i)) (.slice wua a.length wuc) (.slice wva q.length wvc) vsa vsb a q)
    obtain ⟨f0, t0⟩ := G.nw.stg0 ht
    by_cases ha : i < a.length
    case' pos =>
      have ci1 : (i : Int) < a.length := by omega
      obtain ⟨g, o, rfl, u1, g1, hu1⟩ := (G.av.less (F := Fh) (fun g e => .inl e)).at ha
      have hp := ca2 _ (mem_getD ha [])
      have hbp := ca3 _ (mem_getD ha [])
      obtain ⟨s', pw, T', ho'⟩ := T.put hp hbp (by omega)
      rw [← take_getD ha] at pw T'
      simp only [c5_L0, go_sem, ↓reduceIte, Nat.reduceEqDiff, Nat.reduceLeDiff, Nat.reduceAdd, Nat.reduceMul, Nat.reduceSub, Nat.reduceBEq, Nat.reduceGT, Nat.reduceLT, Int.reduceLE, Int.reduceLT, Int.reduceNeg, reduceCtorEq, e0, e1, e6, e7, e8, e10, e12, c0, ci1, Int.toNat_natCast, g1]
      refine FunI.by (F25 G.fs T.pc.ok (by omega) G.ha G.na (fun e => f0 (.inl e)) t0 hu1.1 hbp (by omega) (hu1.2.imp id fun q g hg => ⟨(q g hg).1, by have := (q g hg).2; have := G.Ka; omega⟩) (by unfold wrI; simp only; omega) (by unfold wrI; simp only; omega)) ?_
      rw [pw]
      rintro _ HI ⟨rfl, FI, hI, wI', cxI⟩
      simp only at hI wI'
      have G2 := G.step hI wI' cxI
      simp only [go_sem, ↓reduceIte, Nat.reduceEqDiff, Nat.reduceLeDiff, Nat.reduceAdd, Nat.reduceMul, Nat.reduceSub, Nat.reduceBEq, Nat.reduceGT, Nat.reduceLT, Int.reduceLE, Int.reduceLT, Int.reduceNeg, reduceCtorEq, e0, e1, e6, e7, e8, e10, e12]
    case' neg =>
      have ci1 : ¬ (i : Int) < a.length := by omega
      have cq : (i : Int) < q.length := by omega
      have ho' : s.ops ≤ s.ops + 1 := by omega
      have T' := T
      have G2 := G
      rw [← take_all (show a.length ≤ i by omega)] at T' G2
      simp only [c5_L0, go_sem, ↓reduceIte, Nat.reduceEqDiff, Nat.reduceLeDiff, Nat.reduceAdd, Nat.reduceMul, Nat.reduceSub, Nat.reduceBEq, Nat.reduceGT, Nat.reduceLT, Int.reduceLE, Int.reduceLT, Int.reduceNeg, reduceCtorEq, e0, e1, e6, e7, e8, e10, e12, c0, ci1, cq]
    all_goals
      obtain ⟨f2, t2⟩ := G2.nw.stg0 ht
      by_cases hq : i < q.length
      · have cq1 : (i : Int) < q.length := by omega
        obtain ⟨g', o', rfl, u2, g2, hu2⟩ := (G2.bv.less fun g e => .inl e).at hq
        have hp2 := cb2 _ (mem_getD hq [])
        have hbp2 := cb3 _ (mem_getD hq [])
        obtain ⟨s'', pw2, T2, ho2⟩ := T'.symm.put hp2 hbp2 (by omega)
        rw [← take_getD hq] at pw2 T2
        simp only [go_sem, ↓reduceIte, Nat.reduceEqDiff, Nat.reduceLeDiff, Nat.reduceAdd, Nat.reduceMul, Nat.reduceSub, Nat.reduceBEq, Nat.reduceGT, Nat.reduceLT, Int.reduceLE, Int.reduceLT, Int.reduceNeg, reduceCtorEq, e0, e1, e6, e7, e8, e10, e12, c0, cq1, Int.toNat_natCast, g2]
        refine FunI.by (F25 G2.fs T'.pc.ok (by omega) G2.hb G2.nb (fun e => f2 (.inl e)) t2 hu2.1 hbp2 (by omega) (hu2.2.imp id fun q g hg => ⟨(q g hg).1, by have := (q g hg).2; have := G2.Kb; omega⟩) (by unfold wrI; simp only; omega) (by unfold wrI; simp only; omega)) ?_
        rw [pw2]
        rintro _ HJ ⟨rfl, FJ, hJ, wJ', cxJ⟩
        simp only at hJ wJ'
        have G3 := (G2.symm.step hJ wJ' cxJ).symm
        simp only [go_sem, ↓reduceIte, Nat.reduceEqDiff, Nat.reduceLeDiff, Nat.reduceAdd, Nat.reduceMul, Nat.reduceSub, Nat.reduceBEq, Nat.reduceGT, Nat.reduceLT, Int.reduceLE, Int.reduceLT, Int.reduceNeg, reduceCtorEq, e0, e1, e6, e7, e8, e10, e12, w1]
        exact ⟨Hold.mk (fin _ _ _ _ (by simp only [go_sem, ↓reduceIte, Nat.reduceEqDiff, Nat.reduceLeDiff, Nat.reduceAdd, Nat.reduceMul, Nat.reduceSub, Nat.reduceBEq, Nat.reduceGT, Nat.reduceLT, Int.reduceLE, Int.reduceLT, Int.reduceNeg, reduceCtorEq, e0]) (by simp only [go_sem, ↓reduceIte, Nat.reduceEqDiff, Nat.reduceLeDiff, Nat.reduceAdd, Nat.reduceMul, Nat.reduceSub, Nat.reduceBEq, Nat.reduceGT, Nat.reduceLT, Int.reduceLE, Int.reduceLT, Int.reduceNeg, reduceCtorEq, e1]) (by simp only [go_sem, ↓reduceIte, Nat.reduceEqDiff, Nat.reduceLeDiff, Nat.reduceAdd, Nat.reduceMul, Nat.reduceSub, Nat.reduceBEq, Nat.reduceGT, Nat.reduceLT, Int.reduceLE, Int.reduceLT, Int.reduceNeg, reduceCtorEq, e6, ptrOf]) (by simp only [go_sem, ↓reduceIte, Nat.reduceEqDiff, Nat.reduceLeDiff, Nat.reduceAdd, Nat.reduceMul, Nat.reduceSub, Nat.reduceBEq, Nat.reduceGT, Nat.reduceLT, Int.reduceLE, Int.reduceLT, Int.reduceNeg, reduceCtorEq, e7, ptrOf]) (by simp only [go_sem, ↓reduceIte, Nat.reduceEqDiff, Nat.reduceLeDiff, Nat.reduceAdd, Nat.reduceMul, Nat.reduceSub, Nat.reduceBEq, Nat.reduceGT, Nat.reduceLT, Int.reduceLE, Int.reduceLT, Int.reduceNeg, reduceCtorEq, e8, ptrOf]) (by simp only [go_sem, ↓reduceIte, Nat.reduceEqDiff, Nat.reduceLeDiff, Nat.reduceAdd, Nat.reduceMul, Nat.reduceSub, Nat.reduceBEq, Nat.reduceGT, Nat.reduceLT, Int.reduceLE, Int.reduceLT, Int.reduceNeg, reduceCtorEq, e10, ptrOf]) (by simp only [go_sem, ↓reduceIte, Nat.reduceEqDiff, Nat.reduceLeDiff, Nat.reduceAdd, Nat.reduceMul, Nat.reduceSub, Nat.reduceBEq, Nat.reduceGT, Nat.reduceLT, Int.reduceLE, Int.reduceLT, Int.reduceNeg, reduceCtorEq]) (by omega) T2.symm G3), by omega⟩
      · have cq1 : ¬ (i : Int) < q.length := by omega
        first
          | (exfalso; omega)
          | (have T2 := T'
             have G3 := G2
             rw [← take_all (show q.length ≤ i by omega)] at T2 G3
             simp only [go_sem, ↓reduceIte, Nat.reduceEqDiff, Nat.reduceLeDiff, Nat.reduceAdd, Nat.reduceMul, Nat.reduceSub, Nat.reduceBEq, Nat.reduceGT, Nat.reduceLT, Int.reduceLE, Int.reduceLT, Int.reduceNeg, reduceCtorEq, e0, e1, e6, e7, e8, e10, e12, c0, cq1, w1]
             exact ⟨Hold.mk (fin _ _ _ _ (by simp only [go_sem, ↓reduceIte, Nat.reduceEqDiff, Nat.reduceLeDiff, Nat.reduceAdd, Nat.reduceMul, Nat.reduceSub, Nat.reduceBEq, Nat.reduceGT, Nat.reduceLT, Int.reduceLE, Int.reduceLT, Int.reduceNeg, reduceCtorEq, e0]) (by simp only [go_sem, ↓reduceIte, Nat.reduceEqDiff, Nat.reduceLeDiff, Nat.reduceAdd, Nat.reduceMul, Nat.reduceSub, Nat.reduceBEq, Nat.reduceGT, Nat.reduceLT, Int.reduceLE, Int.reduceLT, Int.reduceNeg, reduceCtorEq, e1]) (by simp only [go_sem, ↓reduceIte, Nat.reduceEqDiff, Nat.reduceLeDiff, Nat.reduceAdd, Nat.reduceMul, Nat.reduceSub, Nat.reduceBEq, Nat.reduceGT, Nat.reduceLT, Int.reduceLE, Int.reduceLT, Int.reduceNeg, reduceCtorEq, e6, ptrOf]) (by simp only [go_sem, ↓reduceIte, Nat.reduceEqDiff, Nat.reduceLeDiff, Nat.reduceAdd, Nat.reduceMul, Nat.reduceSub, Nat.reduceBEq, Nat.reduceGT, Nat.reduceLT, Int.reduceLE, Int.reduceLT, Int.reduceNeg, reduceCtorEq, e7, ptrOf]) (by simp only [go_sem, ↓reduceIte, Nat.reduceEqDiff, Nat.reduceLeDiff, Nat.reduceAdd, Nat.reduceMul, Nat.reduceSub, Nat.reduceBEq, Nat.reduceGT, Nat.reduceLT, Int.reduceLE, Int.reduceLT, Int.reduceNeg, reduceCtorEq, e8, ptrOf]) (by simp only [go_sem, ↓reduceIte, Nat.reduceEqDiff, Nat.reduceLeDiff, Nat.reduceAdd, Nat.reduceMul, Nat.reduceSub, Nat.reduceBEq, Nat.reduceGT, Nat.reduceLT, Int.reduceLE, Int.reduceLT, Int.reduceNeg, reduceCtorEq, e10, ptrOf]) (by simp only [go_sem, ↓reduceIte, Nat.reduceEqDiff, Nat.reduceLeDiff, Nat.reduceAdd, Nat.reduceMul, Nat.reduceSub, Nat.reduceBEq, Nat.reduceGT, Nat.reduceLT, Int.reduceLE, Int.reduceLT, Int.reduceNeg, reduceCtorEq]) (by omega) T2 G3), by omega⟩)
  · have ci1 : ¬ (i : Int) < a.length := by omega
    have cq1 : ¬ (i : Int) < q.length := by omega
    rw [List.take_of_length_le (show a.length ≤ i by omega)] at T G rsa
    rw [List.take_of_length_le (show q.length ≤ i by omega)] at T G rsb
    obtain ⟨f0, t0⟩ := G.nw.stg0 ht
    obtain ⟨s1, x1', en1, T1, ho1⟩ := T.end (by omega)
    have fla := file_len (hd := []) (l := a) (by simp) ca2
    have flq := file_len (hd := []) (l := q) (by simp) cb2
    obtain ⟨s3, x3', en3, T3, ho3⟩ := T1.symm.end (by omega)
    obtain ⟨Ra, hRa⟩ : ∃ z, z = rowB (fileR [] a) := ⟨_, rfl⟩
    obtain ⟨Rq, hRq⟩ : ∃ z, z = rowB (fileR [] q) := ⟨_, rfl⟩
    obtain ⟨Xa, hXa⟩ : ∃ z, z = wI (crcW 0#32 ([] ++ a.flatten)) := ⟨_, rfl⟩
    obtain ⟨Xq, hXq⟩ : ∃ z, z = wI (crcW 0#32 ([] ++ q.flatten)) := ⟨_, rfl⟩
    have hla : Ra.length ≤ 50000 := by rw [hRa]; omega
    have hlq : Rq.length ≤ 50000 := by rw [hRq]; omega
    simp only [c5_L0, go_sem, ↓reduceIte, Nat.reduceEqDiff, Nat.reduceLeDiff, Nat.reduceAdd, Nat.reduceMul, Nat.reduceSub, Nat.reduceBEq, Nat.reduceGT, Nat.reduceLT, Int.reduceLE, Int.reduceLT, Int.reduceNeg, reduceCtorEq, e0, e1, e6, e7, e8, e10, e12, ci1, cq1]
    refine FunI.by (F26 (sy := false) G.fs T.pc.ok (by omega) G.ha G.na (fun e => f0 (.inl e)) t0 (by unfold wrI; simp only; omega) (by unfold wrI; simp only; omega)) ?_
    rw [en1]
    rintro _ HI ⟨rfl, FI, hI, wI', cxI⟩
    simp only at hI wI'
    have G1 := G.step hI wI' cxI
    rw [← hRa, ← hXa]
    obtain ⟨f1, t1⟩ := G1.nw.stg0 ht
    simp only [go_sem, ↓reduceIte, Nat.reduceEqDiff, Nat.reduceLeDiff, Nat.reduceAdd, Nat.reduceMul, Nat.reduceSub, Nat.reduceBEq, Nat.reduceGT, Nat.reduceLT, Int.reduceLE, Int.reduceLT, Int.reduceNeg, reduceCtorEq, e0, e1, e6, e7, e8, e10, e12]
    refine FunI.by (F26 (sy := false) G1.fs T1.pc.ok (by omega) G1.hb G1.nb (fun e => f1 (.inl e)) t1 (by unfold wrI; simp only; omega) (by unfold wrI; simp only; omega)) ?_
    rw [en3]
    rintro _ HJ ⟨rfl, FJ, hJ, wJ', cxJ⟩
    simp only at hJ wJ'
    have G3 := (G1.symm.step hJ wJ' cxJ).symm
    rw [← hRq, ← hXq]
    have T4 := T3.symm
    rw [← hRa, ← hRq] at T4
    obtain ⟨f3, t3⟩ := G3.nw.stg0 ht
    simp only [go_sem, ↓reduceIte, Nat.reduceEqDiff, Nat.reduceLeDiff, Nat.reduceAdd, Nat.reduceMul, Nat.reduceSub, Nat.reduceBEq, Nat.reduceGT, Nat.reduceLT, Int.reduceLE, Int.reduceLT, Int.reduceNeg, reduceCtorEq, e0, e1, e6, e7]
    refine FunI.by (F12 (n := nmA) ⟨G3.fc, p0, fun e => f3 (.inr e), t3⟩ nmA_nm rfl (by decide) ⟨Ints.nil, .inl rfl⟩ ((G3.av.less fun g e => .inr e).up G3.hK2) bn ca3 (by decide) ca2 ca1 (by rw [held_fresh]; decide)) ?_
    rintro _ HK ⟨rfl, fca, F2a, hfca, st4, hnow4, cx4⟩
    have G4 := G3.stepC st4.fs cx4
    have hheld4 := doneS_held (s := freshS 1048576) (n := nmA) hfca [] a true
    rw [held_fresh, ← hRa] at hheld4
    have nB4 : (doneS (freshS 1048576) nmA fca [] a true).now nmB = none := by
      show moveD (fun _ => none) fca nmA nmB = none
      rw [move_ne nmAB.symm (by simp)]
    have op4 : (doneS (freshS 1048576) nmA fca [] a true).ops ≤ 100 := by unfold doneS freshS; simp only [if_true]; omega
    have dt4 : (doneS (freshS 1048576) nmA fca [] a true).dat fca = Ra := by rw [hRa]; exact setF_same _ _ _
    have rm4 : (doneS (freshS 1048576) nmA fca [] a true).room = 1048576 := rfl
    obtain ⟨S4, hS4⟩ : ∃ z, z = doneS (freshS 1048576) nmA fca [] a true := ⟨_, rfl⟩
    rw [← hS4] at hheld4 nB4 op4 dt4 rm4 hnow4 G4 st4
    simp only [go_sem, ↓reduceIte, Nat.reduceEqDiff, Nat.reduceLeDiff, Nat.reduceAdd, Nat.reduceMul, Nat.reduceSub, Nat.reduceBEq, Nat.reduceGT, Nat.reduceLT, Int.reduceLE, Int.reduceLT, Int.reduceNeg, reduceCtorEq, e0, e1, e6, e7]
    refine FunI.by (F12 (n := nmB) st4 nmB_nm nB4 (by omega) ⟨Ints.nil, .inl rfl⟩ ((G4.bv.less fun g e => .inr e).up G4.hK2) bn cb3 (by decide) cb2 cb1 (by rw [hheld4, rm4]; omega)) ?_
    rintro _ HL ⟨rfl, fcq, F2q, hfcq, st5, hnow5, cx5⟩
    have G5 := G4.stepC st5.fs cx5
    have fne : fcq ≠ fca := fun e => hfcq (by rw [e]; exact st4.pc.ok.nowH _ _ hnow4)
    have hnA5 : (doneS S4 nmB fcq [] q true).now nmA = some fca := by
      show moveD S4.now fcq nmB nmA = some fca
      rw [move_ne nmAB (by rw [hnow4]; simpa using fne.symm)]
      exact hnow4
    have da5 : (doneS S4 nmB fcq [] q true).dat fca = Ra := by
      show setF S4.dat fcq _ fca = Ra
      rw [setF_ne _ _ _ fne.symm]
      exact dt4
    have dq5 : (doneS S4 nmB fcq [] q true).dat fcq = Rq := by rw [hRq]; exact setF_same _ _ _
    obtain ⟨S5, hS5⟩ : ∃ z, z = doneS S4 nmB fcq [] q true := ⟨_, rfl⟩
    rw [← hS5] at hnow5 hnA5 da5 dq5 G5 st5
    have wra : IntKind.i64.wrap ((Ra.length : Int) + 1) = ((Ra.length + 1 : Nat) : Int) := by rw [w64_id (by omega) (by omega)]; omega
    have wrq : IntKind.i64.wrap ((Rq.length : Int) + 1) = ((Rq.length + 1 : Nat) : Int) := by rw [w64_id (by omega) (by omega)]; omega
    have rd : ∀ {S : St} {n : Nm} {x : Nat} {R : List Int}, Peace S → S.now n = some x → S.dat x = R → readS S n 0 ((R.length + 1 : Nat) : Int) = (R, 0) := fun {S n x R} hp hn hd => by
      rw [read_calm hp hn (by omega) (by omega), hd, show Int.toNat 0 = 0 from rfl, List.drop_zero, List.take_of_length_le (by omega)]
    obtain ⟨_, _, _, _, _, hPc⟩ := G5.fc
    simp only [go_sem, ↓reduceIte, Nat.reduceEqDiff, Nat.reduceLeDiff, Nat.reduceAdd, Nat.reduceMul, Nat.reduceSub, Nat.reduceBEq, Nat.reduceGT, Nat.reduceLT, Int.reduceLE, Int.reduceLT, Int.reduceNeg, reduceCtorEq, e0, e1, e6, e7, wra, wrq]
    refine FunI.by (F17 hPc st5.pc.ok nmA 0 ((Ra.length + 1 : Nat) : Int) (by omega)) ?_
    rw [rd st5.pc hnA5 da5]
    rintro _ HM ⟨p6, rfl, o6, x6⟩
    simp only [go_sem, ↓reduceIte, Nat.reduceEqDiff, Nat.reduceLeDiff, Nat.reduceAdd, Nat.reduceMul, Nat.reduceSub, Nat.reduceBEq, Nat.reduceGT, Nat.reduceLT, Int.reduceLE, Int.reduceLT, Int.reduceNeg, reduceCtorEq, e0, e1, e6, e7, wra, wrq]
    refine FunI.by (F17 (hPc.ext x6) st5.pc.ok nmB 0 ((Rq.length + 1 : Nat) : Int) (by omega)) ?_
    rw [rd st5.pc hnow5 dq5]
    rintro _ HN ⟨p7, rfl, o7, x7⟩
    have G7 := (G5.ext x6).ext x7
    obtain ⟨_, _, _, _, _, hPd⟩ := G7.fs
    simp only [go_sem, ↓reduceIte, Nat.reduceEqDiff, Nat.reduceLeDiff, Nat.reduceAdd, Nat.reduceMul, Nat.reduceSub, Nat.reduceBEq, Nat.reduceGT, Nat.reduceLT, Int.reduceLE, Int.reduceLT, Int.reduceNeg, reduceCtorEq, e0, e1, e6, e7, wra, wrq]
    refine FunI.by (F17 hPd T4.pc.ok nmA 0 ((Ra.length + 1 : Nat) : Int) (by omega)) ?_
    rw [rd T4.pc T4.nx T4.dx]
    rintro _ HO ⟨p8, rfl, o8, x8⟩
    simp only [go_sem, ↓reduceIte, Nat.reduceEqDiff, Nat.reduceLeDiff, Nat.reduceAdd, Nat.reduceMul, Nat.reduceSub, Nat.reduceBEq, Nat.reduceGT, Nat.reduceLT, Int.reduceLE, Int.reduceLT, Int.reduceNeg, reduceCtorEq, e0, e1, e6, e7, wra, wrq]
    refine FunI.by (F17 (hPd.ext x8) T4.pc.ok nmB 0 ((Rq.length + 1 : Nat) : Int) (by omega)) ?_
    rw [rd T4.pc T4.ny T4.dy]
    rintro _ HP ⟨p9, rfl, o9, x9⟩
    have G9 := (G7.ext x8).ext x9
    have i6 := ((o6.ext x7).ext x8).ext x9
    have i7 := (o7.ext x8).ext x9
    have i8 := o8.ext x9
    obtain ⟨q6, r6, rfl⟩ := Ints.form (xs := Ra) (k := .u8) i6.sl
    obtain ⟨q7, r7, rfl⟩ := Ints.form (xs := Rq) (k := .u8) i7.sl
    have bRa : Byt Ra := by rw [hRa]; exact rowB_byt fun g hg => (file_mem ⟨by decide, bn⟩ (fun p hp => ⟨ca2 p hp, ca3 p hp⟩) g hg).2.2
    have bRq : Byt Rq := by rw [hRq]; exact rowB_byt fun g hg => (file_mem ⟨by decide, bn⟩ (fun p hp => ⟨cb2 p hp, cb3 p hp⟩) g hg).2.2
    simp only [go_sem, ↓reduceIte, Nat.reduceEqDiff, Nat.reduceLeDiff, Nat.reduceAdd, Nat.reduceMul, Nat.reduceSub, Nat.reduceBEq, Nat.reduceGT, Nat.reduceLT, Int.reduceLE, Int.reduceLT, Int.reduceNeg, reduceCtorEq, e0, e1, e6, e7]
    refine FunI.by (F14 _ _ Ra Ra HP i6.sl i8.sl bRa bRa) ?_
    rintro _ _ ⟨rfl, rfl⟩
    simp only [go_sem, ↓reduceIte, Nat.reduceEqDiff, Nat.reduceLeDiff, Nat.reduceAdd, Nat.reduceMul, Nat.reduceSub, Nat.reduceBEq, Nat.reduceGT, Nat.reduceLT, Int.reduceLE, Int.reduceLT, Int.reduceNeg, reduceCtorEq, e0, e1, e6, e7]
    refine FunI.by (F14 _ _ Rq Rq _ i7.sl o9.sl bRq bRq) ?_
    rintro _ _ ⟨rfl, rfl⟩
    simp only [go_sem, ↓reduceIte, Nat.reduceEqDiff, Nat.reduceLeDiff, Nat.reduceAdd, Nat.reduceMul, Nat.reduceSub, Nat.reduceBEq, Nat.reduceGT, Nat.reduceLT, Int.reduceLE, Int.reduceLT, Int.reduceNeg, reduceCtorEq, e0, e1, e6, e7]
    refine FunI.by (F27 Ints.nil G9.av.lists bn ca3 (by decide) ca2 ca1) ?_
    rintro _ HQ ⟨rfl, x10⟩
    rw [← hXa]
    simp only [go_sem, ↓reduceIte, Nat.reduceEqDiff, Nat.reduceLeDiff, Nat.reduceAdd, Nat.reduceMul, Nat.reduceSub, Nat.reduceBEq, Nat.reduceGT, Nat.reduceLT, Int.reduceLE, Int.reduceLT, Int.reduceNeg, reduceCtorEq, e0, e1, e6, e7]
    refine FunI.by (F27 Ints.nil (G9.bv.lists.ext x10) bn cb3 (by decide) cb2 cb1) ?_
    rintro _ HR ⟨rfl, x11⟩
    rw [← hXq]
    simp only [go_sem, ↓reduceIte, Nat.reduceEqDiff, Nat.reduceLeDiff, Nat.reduceAdd, Nat.reduceMul, Nat.reduceSub, Nat.reduceBEq, Nat.reduceGT, Nat.reduceLT, Int.reduceLE, Int.reduceLT, Int.reduceNeg, reduceCtorEq]
    repeat (refine FunI.by (F19 _ _) ?_; rintro _ _ ⟨rfl, rfl⟩; simp only [go_sem, ↓reduceIte, Nat.reduceEqDiff, Nat.reduceLeDiff, Nat.reduceAdd, Nat.reduceMul, Nat.reduceSub, Nat.reduceBEq, Nat.reduceGT, Nat.reduceLT, Int.reduceLE, Int.reduceLT, Int.reduceNeg, reduceCtorEq])
    exact ((G9.nw.ext x10).ext x11).1
end Go.Proofs.YtgpoldjpmcoppaaDoor
