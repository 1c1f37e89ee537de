/- The directory behind a crash; names, rising. -/
import Derived.Test.YtgpoldjpmcoppaaDoorVFsE
set_option linter.unusedSimpArgs false
set_option linter.unusedVariables false
set_option maxRecDepth 20000
namespace Go.V
open Go
theorem and_one (x : Int) : ibits .and .i64 x 1 = x % 2 := by
  simp only [ibits]
  have e : (BitVec.ofInt IntKind.i64.bits x &&& BitVec.ofInt IntKind.i64.bits 1).toNat = (x % 2).toNat := by
    rw [BitVec.toNat_and]
    have h1 : (BitVec.ofInt IntKind.i64.bits 1).toNat = 2 ^ 1 - 1 := by decide
    rw [h1, Nat.and_two_pow_sub_one_eq_mod]
    have h2 : ((BitVec.ofInt IntKind.i64.bits x).toNat : Int) = x % 18446744073709551616 := by
      rw [BitVec.toNat_ofInt]
      show ((x % ((18446744073709551616 : Nat) : Int)).toNat : Int) = _
      rw [Int.toNat_of_nonneg (by omega)]; rfl
    omega
  rw [e, w64_id (by omega) (by omega)]
  omega
theorem moveD_mem {D : Dir} {x : Nat} {n : Nm} {hs : List Nat} (hD : ∀ m f, D m = some f → f ∈ hs) (hx : x ∈ hs) : ∀ m f, moveD D x n m = some f → f ∈ hs := by
  intro m f h
  unfold moveD at h
  split at h
  · injection h with h; exact h ▸ hx
  · split at h
    · cases h
    · exact hD m f h
theorem afterD_mem {hs : List Nat} {dir : Int} : ∀ (l : List (Nat × Nm)) (i : Nat) {D : Dir}, (∀ m f, D m = some f → f ∈ hs) → (∀ p ∈ l, p.1 ∈ hs) → ∀ m f, afterD D dir l i m = some f → f ∈ hs
  | [], i, D, hD, _, m, f, h => hD m f h
  | p :: l, i, D, hD, hp, m, f, h => by
    refine afterD_mem l (i + 1) (D := if bitI dir i then moveD D p.1 p.2 else D) ?_ (fun q hq => hp q (List.mem_cons_of_mem _ hq)) m f h
    split
    · exact moveD_mem hD (hp p List.mem_cons_self)
    · exact hD
end Go.V
namespace Go.Proofs.YtgpoldjpmcoppaaDoor
open Go Go.V
-- 67: (*pith/fs.FS).after
-- 80: maps.Clone[pith/fs.dir,string,*pith/fs.file]
-- 73: (*pith/fs.FS).pend$1
-- 86: fs.FS
-- 9: string
-- 82: fs.dir
-- 130: func(fs.dir)
section
variable {H H' H2 : Heap} {F F' : Nat → Prop} {b mb lb hb lb' hb' : Nat} {pv pv' : Value} {dv : Nat → Value} {s : St}
theorem shr_eq (x : Int) (i : Nat) : ishr .i64 x ((min i 63 : Nat) : Int) = x / 2 ^ (min i 63) := by
  rw [ishr_eq (by omega) (by show ((min i 63 : Nat) : Int) ≤ 64; omega), Int.toNat_natCast]
set_option maxHeartbeats 3200000 in
theorem F67 (h : FsP H F b mb lb hb pv dv s) (ok : Ok s) (hn : s.ops < 1099511627776) (dir : Int) :
    Fun Tryd.prog 67 #[ptrOf b, .int .i64 dir] H (fun r H' => ∃ m, r = .map (some m) ∧ H.size ≤ m ∧ DirH H' m (afterD s.last dir s.pend 0) ∧ Ext H H') := by
  refine fun_of mixed (args := [_, _]) Tryd.func67 Tryd.ntmps67 b67 r67 rfl ?_
  obtain ⟨g0, g1, g2, g3, g4, g5, g6, g7⟩ := h.get
  obtain ⟨l, c, m, hg⟩ := h.hL
  have N := ok.num hn
  simp only [go_sem, ↓reduceIte, Nat.reduceEqDiff, Nat.reduceLeDiff, Nat.reduceAdd, Nat.reduceMul, Nat.reduceSub, Nat.reduceBEq, Nat.reduceGT, Nat.reduceLT, Int.reduceLE, Int.reduceLT, Int.reduceNeg, reduceCtorEq, ptrOf, g2]
  refine FunI.by (F80 m.hb) ?_
  rintro _ _ ⟨rfl, rfl⟩
  have x1 : Ext H (H.push (.map (entsA Value.string l) c)) := Ext.push _
  have d1 : DirH (H.push (.map (entsA Value.string l) c)) H.size s.last := ⟨l, c, ⟨push_new, m.old, m.nb, m.nk⟩, hg⟩
  have h1 := h.ext x1
  generalize H.push (.map (entsA Value.string l) c) = H1 at *
  obtain ⟨_, _, _, r3, _, _, _, _⟩ := h1.get
  obtain ⟨vs, o, pp⟩ := h1.hp
  have hvl : vs.length = s.pend.length := pp.length
  obtain ⟨a, cap, rfl⟩ := h1.pend_form
  simp only [go_sem, ↓reduceIte, Nat.reduceEqDiff, Nat.reduceLeDiff, Nat.reduceAdd, Nat.reduceMul, Nat.reduceSub, Nat.reduceBEq, Nat.reduceGT, Nat.reduceLT, Int.reduceLE, Int.reduceLT, Int.reduceNeg, reduceCtorEq, r3]
  refine LoopI.by mixed (fun ρ H' => ∃ (i : Nat) (D : Dir), ρ 0 = ptrOf b ∧ ρ 1 = .int .i64 dir ∧ ρ 5 = .map (some H.size) ∧ ρ 16 = .slice a s.pend.length cap ∧ ρ 17 = .int .i64 s.pend.length ∧ ρ 18 = .int .i64 i ∧ i ≤ s.pend.length ∧ DirH H' H.size D ∧ (∀ n f, D n = some f → f ∈ s.held) ∧ afterD D dir (s.pend.drop i) i = afterD s.last dir s.pend 0 ∧ Ext H H') (fun ρ _ => s.pend.length - (iof (ρ 18)).toNat) ?_ ?_
  · exact ⟨0, s.last, by simp only [go_sem, ↓reduceIte, Nat.reduceEqDiff, Nat.reduceLeDiff, Nat.reduceAdd, Nat.reduceMul, Nat.reduceSub, Nat.reduceBEq, Nat.reduceGT, Nat.reduceLT, Int.reduceLE, Int.reduceLT, Int.reduceNeg, reduceCtorEq, ptrOf], by simp only [go_sem, ↓reduceIte, Nat.reduceEqDiff, Nat.reduceLeDiff, Nat.reduceAdd, Nat.reduceMul, Nat.reduceSub, Nat.reduceBEq, Nat.reduceGT, Nat.reduceLT, Int.reduceLE, Int.reduceLT, Int.reduceNeg, reduceCtorEq], by simp only [go_sem, ↓reduceIte, Nat.reduceEqDiff, Nat.reduceLeDiff, Nat.reduceAdd, Nat.reduceMul, Nat.reduceSub, Nat.reduceBEq, Nat.reduceGT, Nat.reduceLT, Int.reduceLE, Int.reduceLT, Int.reduceNeg, reduceCtorEq], by simp only [go_sem, ↓reduceIte, Nat.reduceEqDiff, Nat.reduceLeDiff, Nat.reduceAdd, Nat.reduceMul, Nat.reduceSub, Nat.reduceBEq, Nat.reduceGT, Nat.reduceLT, Int.reduceLE, Int.reduceLT, Int.reduceNeg, reduceCtorEq], by simp only [go_sem, ↓reduceIte, Nat.reduceEqDiff, Nat.reduceLeDiff, Nat.reduceAdd, Nat.reduceMul, Nat.reduceSub, Nat.reduceBEq, Nat.reduceGT, Nat.reduceLT, Int.reduceLE, Int.reduceLT, Int.reduceNeg, reduceCtorEq], by simp only [go_sem, ↓reduceIte, Nat.reduceEqDiff, Nat.reduceLeDiff, Nat.reduceAdd, Nat.reduceMul, Nat.reduceSub, Nat.reduceBEq, Nat.reduceGT, Nat.reduceLT, Int.reduceLE, Int.reduceLT, Int.reduceNeg, reduceCtorEq]; rfl, by omega, d1, ok.lastH, rfl, x1⟩
  clear d1 h1 r3 o pp hvl x1
  rintro ρ H2 ⟨i, D, e0, e1, e5, e16, e17, e18, hi, d2, hD, haft, x2⟩
  have h2 := h.ext x2
  obtain ⟨vs, o, pp⟩ := h2.hp
  have hvl : vs.length = s.pend.length := pp.length
  by_cases hlt : i < s.pend.length
  · have z0 : (0 : Int) ≤ i := by omega
    have z1 : (i : Int) < s.pend.length := by omega
    have := N.pl
    have := N.ops
    have w1 : IntKind.i64.wrap ((i : Int) + 1) = ((i + 1 : Nat) : Int) := by rw [w64_id (by omega) (by omega)]; omega
    obtain ⟨pp1, hpp1⟩ : ∃ p, s.pend[i]? = some p := ⟨_, List.getElem?_eq_getElem hlt⟩
    obtain ⟨v, hv, c1, c2, rfl, f1, f2, hc1, hc2⟩ := pp.get hpp1
    have hsl := o.sl
    obtain ⟨g, og, rfl⟩ := Sl.at hsl (by omega)
    have hget : hget H2 g (og + i) = some (.func (.func 73) #[] #[ptrOf c1, ptrOf c2]) := by rw [Sl.get hsl (by omega)]; exact hv
    have emin : (if (63 : Int) < (i : Int) then (63 : Int) else (i : Int)) = ((min i 63 : Nat) : Int) := by split <;> omega
    have zmin : (0 : Int) ≤ ((min i 63 : Nat) : Int) := by omega
    have hdrop : s.pend.drop i = pp1 :: s.pend.drop (i + 1) := by
      rw [List.drop_eq_getElem_cons hlt]
      rw [List.getElem?_eq_getElem hlt] at hpp1
      injection hpp1 with hpp1
      rw [hpp1]
    rw [hdrop] at haft
    have hmem : pp1 ∈ s.pend := List.mem_of_getElem? hpp1
    by_cases hbit : (dir / 2 ^ (min i 63)) % 2 = 0
    · have hb0 : bitI dir i = false := by unfold bitI; simp [hbit]
      rw [show afterD D dir (pp1 :: s.pend.drop (i + 1)) i = afterD (if bitI dir i then moveD D pp1.1 pp1.2 else D) dir (s.pend.drop (i + 1)) (i + 1) from rfl, hb0] at haft
      simp only [go_sem, ↓reduceIte, Nat.reduceEqDiff, Nat.reduceLeDiff, Nat.reduceAdd, Nat.reduceMul, Nat.reduceSub, Nat.reduceBEq, Nat.reduceGT, Nat.reduceLT, Int.reduceLE, Int.reduceLT, Int.reduceNeg, reduceCtorEq, c67_L0, e0, e1, e5, e16, e17, e18, z0, z1, Int.toNat_natCast, hget, emin, zmin, shr_eq, and_one, hbit, w1]
      exact ⟨Hold.mk ⟨i + 1, D, by simp only [go_sem, ↓reduceIte, Nat.reduceEqDiff, Nat.reduceLeDiff, Nat.reduceAdd, Nat.reduceMul, Nat.reduceSub, Nat.reduceBEq, Nat.reduceGT, Nat.reduceLT, Int.reduceLE, Int.reduceLT, Int.reduceNeg, reduceCtorEq, e0], by simp only [go_sem, ↓reduceIte, Nat.reduceEqDiff, Nat.reduceLeDiff, Nat.reduceAdd, Nat.reduceMul, Nat.reduceSub, Nat.reduceBEq, Nat.reduceGT, Nat.reduceLT, Int.reduceLE, Int.reduceLT, Int.reduceNeg, reduceCtorEq, e1], by simp only [go_sem, ↓reduceIte, Nat.reduceEqDiff, Nat.reduceLeDiff, Nat.reduceAdd, Nat.reduceMul, Nat.reduceSub, Nat.reduceBEq, Nat.reduceGT, Nat.reduceLT, Int.reduceLE, Int.reduceLT, Int.reduceNeg, reduceCtorEq, e5], by simp only [go_sem, ↓reduceIte, Nat.reduceEqDiff, Nat.reduceLeDiff, Nat.reduceAdd, Nat.reduceMul, Nat.reduceSub, Nat.reduceBEq, Nat.reduceGT, Nat.reduceLT, Int.reduceLE, Int.reduceLT, Int.reduceNeg, reduceCtorEq, e16], by simp only [go_sem, ↓reduceIte, Nat.reduceEqDiff, Nat.reduceLeDiff, Nat.reduceAdd, Nat.reduceMul, Nat.reduceSub, Nat.reduceBEq, Nat.reduceGT, Nat.reduceLT, Int.reduceLE, Int.reduceLT, Int.reduceNeg, reduceCtorEq, e17], by simp only [go_sem, ↓reduceIte, Nat.reduceEqDiff, Nat.reduceLeDiff, Nat.reduceAdd, Nat.reduceMul, Nat.reduceSub, Nat.reduceBEq, Nat.reduceGT, Nat.reduceLT, Int.reduceLE, Int.reduceLT, Int.reduceNeg, reduceCtorEq], by omega, d2, hD, by simpa using haft, x2⟩, by omega⟩
    · have hb1 : bitI dir i = true := by unfold bitI; simp [hbit]
      rw [show afterD D dir (pp1 :: s.pend.drop (i + 1)) i = afterD (if bitI dir i then moveD D pp1.1 pp1.2 else D) dir (s.pend.drop (i + 1)) (i + 1) from rfl, hb1, if_pos rfl] at haft
      simp only [go_sem, ↓reduceIte, Nat.reduceEqDiff, Nat.reduceLeDiff, Nat.reduceAdd, Nat.reduceMul, Nat.reduceSub, Nat.reduceBEq, Nat.reduceGT, Nat.reduceLT, Int.reduceLE, Int.reduceLT, Int.reduceNeg, reduceCtorEq, c67_L0, e0, e1, e5, e16, e17, e18, z0, z1, Int.toNat_natCast, hget, emin, zmin, shr_eq, and_one, hbit, w1]
      refine FunI.by (F73 (c1 := c1) (c2 := c2) d2 hc1 hc2 (h2.stands (ok.pendH _ hmem)) (fun m f hm => h2.stands (hD m f hm))) ?_
      rintro r3 H3 ⟨d3, s3, k3⟩
      simp only [go_sem, ↓reduceIte, Nat.reduceEqDiff, Nat.reduceLeDiff, Nat.reduceAdd, Nat.reduceMul, Nat.reduceSub, Nat.reduceBEq, Nat.reduceGT, Nat.reduceLT, Int.reduceLE, Int.reduceLT, Int.reduceNeg, reduceCtorEq, e18, w1]
      refine ⟨Hold.mk ⟨i + 1, _, by simp only [go_sem, ↓reduceIte, Nat.reduceEqDiff, Nat.reduceLeDiff, Nat.reduceAdd, Nat.reduceMul, Nat.reduceSub, Nat.reduceBEq, Nat.reduceGT, Nat.reduceLT, Int.reduceLE, Int.reduceLT, Int.reduceNeg, reduceCtorEq, e0], by simp only [go_sem, ↓reduceIte, Nat.reduceEqDiff, Nat.reduceLeDiff, Nat.reduceAdd, Nat.reduceMul, Nat.reduceSub, Nat.reduceBEq, Nat.reduceGT, Nat.reduceLT, Int.reduceLE, Int.reduceLT, Int.reduceNeg, reduceCtorEq, e1], by simp only [go_sem, ↓reduceIte, Nat.reduceEqDiff, Nat.reduceLeDiff, Nat.reduceAdd, Nat.reduceMul, Nat.reduceSub, Nat.reduceBEq, Nat.reduceGT, Nat.reduceLT, Int.reduceLE, Int.reduceLT, Int.reduceNeg, reduceCtorEq, e5], by simp only [go_sem, ↓reduceIte, Nat.reduceEqDiff, Nat.reduceLeDiff, Nat.reduceAdd, Nat.reduceMul, Nat.reduceSub, Nat.reduceBEq, Nat.reduceGT, Nat.reduceLT, Int.reduceLE, Int.reduceLT, Int.reduceNeg, reduceCtorEq, e16], by simp only [go_sem, ↓reduceIte, Nat.reduceEqDiff, Nat.reduceLeDiff, Nat.reduceAdd, Nat.reduceMul, Nat.reduceSub, Nat.reduceBEq, Nat.reduceGT, Nat.reduceLT, Int.reduceLE, Int.reduceLT, Int.reduceNeg, reduceCtorEq, e17], by simp only [go_sem, ↓reduceIte, Nat.reduceEqDiff, Nat.reduceLeDiff, Nat.reduceAdd, Nat.reduceMul, Nat.reduceSub, Nat.reduceBEq, Nat.reduceGT, Nat.reduceLT, Int.reduceLE, Int.reduceLT, Int.reduceNeg, reduceCtorEq], by omega, d3, moveD_mem hD (ok.pendH _ hmem), haft, x2.trans ⟨?_, ?_⟩⟩, by omega⟩
      · have := x2.size; omega
      · intro g hg; exact k3 g (by have := x2.size; omega) (by omega)
  · have hie : i = s.pend.length := by omega
    have z1 : ¬ (i : Int) < s.pend.length := by omega
    rw [hie, List.drop_length] at haft
    simp only [go_sem, ↓reduceIte, Nat.reduceEqDiff, Nat.reduceLeDiff, Nat.reduceAdd, Nat.reduceMul, Nat.reduceSub, Nat.reduceBEq, Nat.reduceGT, Nat.reduceLT, Int.reduceLE, Int.reduceLT, Int.reduceNeg, reduceCtorEq, c67_L0, e5, e17, e18, z1]
    exact ⟨_, rfl, Nat.le_refl _, by rw [← haft]; exact d2, x2⟩
end
end Go.Proofs.YtgpoldjpmcoppaaDoor
