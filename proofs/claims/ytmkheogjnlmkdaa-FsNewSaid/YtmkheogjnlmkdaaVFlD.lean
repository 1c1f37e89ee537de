/- What a file system says against a plain list of files. -/
import Derived.Test.YtmkheogjnlmkdaaVFlC
set_option linter.unusedSimpArgs false
set_option linter.unusedVariables false
set_option maxRecDepth 20000
namespace Go.V
open Go
theorem names_len_eq {D : Dir} {ns : List Nm} {L : List Flp} (h : IsNames D ns) (nd : Nd L) (hm : ∀ n, D n ≠ none ↔ lkp L n ≠ none) : ns.length = L.length := by
  have hp : ns.Perm (L.map (·.1)) := by
    rw [List.perm_ext_iff_of_nodup (names_nodup h) nd]
    intro n
    rw [h.2 n, hm n, Ne, look_none]
    simp [List.mem_map]
  rw [hp.length_eq, List.length_map]
end Go.V
namespace Go.Proofs.Ytmkheogjnlmkdaa
open Go Go.V
-- 22: pith/pithlaw8.num
-- 15: pith/pithlaw8.has
-- 19: pith/pithlaw8.says
-- 33: (*pith/fs.FS).Names
-- 32: (*pith/fs.FS).Size
-- 31: (*pith/fs.FS).Read
-- 48: pith/pithref.SameBytes
-- 3: int
-- 5: uint8
-- 44: pith/api.File
section
variable {H H' : Heap} {F F' : Nat → Prop} {b : Nat} {s : St}
set_option maxHeartbeats 3200000 in
theorem F19 (h : FsH H F b s) (ok : Ok s) (hn : s.ops < 1099511627776) (hoff : s.off = false) {N : Nat → Prop} {v : Value} {L : List Fl} (hv : FilesN H N v L) (nd : Nd L) (hview : viewS s = lkp L) (hb : ∀ x ∈ L, Byt x.2 ∧ x.2.length ≤ 1073741824) (hl : L.length ≤ 1000000) :
    Fun Try.prog 19 #[ptrOf b, v] H (fun r H' => r = .bool true ∧ Ext H H') := by
  obtain ⟨a, c, rfl⟩ := hv.form
  refine fun_of mixed (args := [_, _]) Try.func19 Try.ntmps19 b19 r19 rfl ?_
  obtain ⟨mb, lb, hb', pv, dv, p⟩ := h
  simp only [go_sem, ↓reduceIte, Nat.reduceEqDiff, Nat.reduceLeDiff, Nat.reduceAdd, Nat.reduceMul, Nat.reduceSub, Nat.reduceBEq, Nat.reduceGT, Nat.reduceLT, Int.reduceLE, Int.reduceLT, Int.reduceNeg, reduceCtorEq, ptrOf]
  refine FunI.by (F33 p ok hn) ?_
  rintro v1 H1 ⟨ns, hns, o1, x1⟩
  rw [hoff] at hns
  simp only [Bool.false_eq_true, if_false] at hns
  have hnl : ns.length = L.length := names_len_eq hns nd fun n => by rw [← hview]; unfold viewS; simp
  obtain ⟨a1, c1, rfl⟩ := strs_form o1.sl
  simp only [go_sem, ↓reduceIte, Nat.reduceEqDiff, Nat.reduceLeDiff, Nat.reduceAdd, Nat.reduceMul, Nat.reduceSub, Nat.reduceBEq, Nat.reduceGT, Nat.reduceLT, Int.reduceLE, Int.reduceLT, Int.reduceNeg, reduceCtorEq, hnl]
  rw [hnl] at o1
  obtain ⟨P, hP, rp⟩ := hv
  have hPl : P.length = L.length := by have := congrArg List.length hP; rw [List.length_map] at this; exact this
  refine LoopI.by mixed (fun ρ H' => ∃ i : Nat, ρ 0 = ptrOf b ∧ ρ 1 = .slice a L.length c ∧ ρ 5 = .slice a1 L.length c1 ∧ ρ 6 = .int .i64 i ∧ i ≤ L.length ∧ Ext H1 H') (fun ρ _ => L.length - (iof (ρ 6)).toNat) ?_ ?_
  · exact ⟨0, by simp only [go_sem, ↓reduceIte, Nat.reduceEqDiff, Nat.reduceLeDiff, Nat.reduceAdd, Nat.reduceMul, Nat.reduceSub, Nat.reduceBEq, Nat.reduceGT, Nat.reduceLT, Int.reduceLE, Int.reduceLT, Int.reduceNeg, reduceCtorEq, ptrOf], by simp only [go_sem, ↓reduceIte, Nat.reduceEqDiff, Nat.reduceLeDiff, Nat.reduceAdd, Nat.reduceMul, Nat.reduceSub, Nat.reduceBEq, Nat.reduceGT, Nat.reduceLT, Int.reduceLE, Int.reduceLT, Int.reduceNeg, reduceCtorEq], by simp only [go_sem, ↓reduceIte, Nat.reduceEqDiff, Nat.reduceLeDiff, Nat.reduceAdd, Nat.reduceMul, Nat.reduceSub, Nat.reduceBEq, Nat.reduceGT, Nat.reduceLT, Int.reduceLE, Int.reduceLT, Int.reduceNeg, reduceCtorEq], by simp only [go_sem, ↓reduceIte, Nat.reduceEqDiff, Nat.reduceLeDiff, Nat.reduceAdd, Nat.reduceMul, Nat.reduceSub, Nat.reduceBEq, Nat.reduceGT, Nat.reduceLT, Int.reduceLE, Int.reduceLT, Int.reduceNeg, reduceCtorEq]; rfl, by omega, Upto.refl _ _⟩
  rintro ρ H2 ⟨i, e0, e1, e5, e6, hi, x2⟩
  have xx : Ext H H2 := x1.trans (x2.mono x1.size)
  by_cases hlt : i < L.length
  · obtain ⟨n, hni⟩ : ∃ n, ns[i]? = some n := ⟨_, List.getElem?_eq_getElem (by omega)⟩
    have hmem := List.mem_of_getElem? hni
    obtain ⟨x, hx⟩ : ∃ x, s.now n = some x := by
      cases hx : s.now n with
      | none => exact absurd hx ((hns.2 n).1 hmem)
      | some x => exact ⟨x, rfl⟩
    have hlk : lkp L n = some (s.dat x) := by rw [← hview]; unfold viewS; rw [hx]; rfl
    have hnm := ok.nowN _ _ hx
    obtain ⟨j, hj⟩ : ∃ j, hasN L n = some j := by
      cases hh : hasN L n with
      | none => rw [hasN_none.1 hh] at hlk; cases hlk
      | some j => exact ⟨j, rfl⟩
    have hhas : hasS L n = j := by unfold hasS; rw [hj]
    obtain ⟨d, hLj, hld⟩ := hasN_some hj
    have hdd : d = s.dat x := by rw [hlk] at hld; exact (Option.some.inj hld).symm
    subst hdd
    have hjl := (List.getElem?_eq_some_iff.1 hLj).1
    have sl1 := (o1.ext x2).sl
    obtain ⟨g1, o1', rfl, gn⟩ := txts_at (ns := ns) sl1 hni
    have c0 : (0 : Int) ≤ i := by omega
    have c2 : (i : Int) < L.length := by omega
    have cj0 : (0 : Int) ≤ j := by omega
    have cj1 : ¬ (j : Int) < 0 := by omega
    have cj2 : (j : Int) < L.length := by omega
    have fs0 : findS s n = (some x, 0) := by rw [find_on hoff hnm, hx]
    have es : sizeS s n = (((s.dat x).length : Int), 0) := by unfold sizeS; rw [fs0]
    have hby := (hb _ (List.mem_of_getElem? hLj)).1
    have hle := (hb _ (List.mem_of_getElem? hLj)).2
    have er : readS s n 0 1073741824 = (s.dat x, 0) := by
      unfold readS
      rw [fs0]
      simp only
      rw [if_neg (by omega)]
      show ((List.drop 0 (s.dat x)).take 1073741824, (0 : Int)) = _
      rw [List.drop_zero, List.take_of_length_le hle]
    have w2 : IntKind.i64.wrap ((i : Int) + 1) = ((i + 1 : Nat) : Int) := by rw [w64_id (by omega) (by omega)]; omega
    obtain ⟨⟨u, y⟩, hPj⟩ : ∃ p, P[j]? = some p := ⟨_, List.getElem?_eq_getElem (by omega)⟩
    have hy : y = (n, s.dat x) := by
      have : L[j]? = some y := by rw [← hP, List.getElem?_map, hPj]; rfl
      rw [hLj] at this; exact (Option.some.inj this).symm
    obtain ⟨b2, o2, rfl⟩ := rp.at (show j < P.length by omega)
    subst hy
    obtain ⟨gs, gd, gi, _⟩ := RecP.e0 (rp.ext xx) hPj
    have c0' : (0 : Int) ≤ (j : Int) := cj0
    by_cases c3 : (0 : Int) < (i : Int)
    case' pos =>
      obtain ⟨m, hmi⟩ : ∃ m, ns[i - 1]? = some m := ⟨_, List.getElem?_eq_getElem (by omega)⟩
      obtain ⟨_, _, e7, gm⟩ := txts_at (ns := ns) sl1 hmi
      cases e7
      have wm : IntKind.i64.wrap ((i : Int) - 1) = ((i - 1 : Nat) : Int) := by rw [w64_id (by omega) (by omega)]; omega
      have cm0 : (0 : Int) ≤ ((i - 1 : Nat) : Int) := by omega
      have cm1 : ((i - 1 : Nat) : Int) < L.length := by omega
      have hlq : (Op.bytesLess n.toList m.toList || n.toList == m.toList) = false := by
        have hlt2 := List.pairwise_iff_getElem.1 hns.1 (i - 1) i (by omega) (by omega) (by omega)
        rw [(List.getElem?_eq_some_iff.1 hmi).2, (List.getElem?_eq_some_iff.1 hni).2] at hlt2
        rw [bytesLess_eq, toList_data, toList_data]
        have h1 : ¬ n.data.toList < m.data.toList := List.lt_asymm hlt2
        have h2 : ¬ n.data.toList = m.data.toList := fun e => by rw [e] at hlt2; exact List.lt_irrefl _ hlt2
        rw [decide_eq_false h1, Bool.false_or]
        exact beq_eq_false_iff_ne.2 h2
      simp only [go_sem, ↓reduceIte, Nat.reduceEqDiff, Nat.reduceLeDiff, Nat.reduceAdd, Nat.reduceMul, Nat.reduceSub, Nat.reduceBEq, Nat.reduceGT, Nat.reduceLT, Int.reduceLE, Int.reduceLT, Int.reduceNeg, reduceCtorEq, c19_L0, e0, e1, e5, e6, c0, c2, Int.toNat_natCast, gn, w2]
      refine FunI.by (F15 ⟨P, hP, rp.ext xx⟩ (by omega) n) ?_
      rintro _ _ ⟨rfl, rfl⟩
      rw [hhas]
      simp only [go_sem, ↓reduceIte, Nat.reduceEqDiff, Nat.reduceLeDiff, Nat.reduceAdd, Nat.reduceMul, Nat.reduceSub, Nat.reduceBEq, Nat.reduceGT, Nat.reduceLT, Int.reduceLE, Int.reduceLT, Int.reduceNeg, reduceCtorEq, e0, e1, e5, e6, c0, c2, Int.toNat_natCast, gn, w2, cj1, c3, wm, cm0, cm1, gm, hlq]
    case' neg =>
      simp only [go_sem, ↓reduceIte, Nat.reduceEqDiff, Nat.reduceLeDiff, Nat.reduceAdd, Nat.reduceMul, Nat.reduceSub, Nat.reduceBEq, Nat.reduceGT, Nat.reduceLT, Int.reduceLE, Int.reduceLT, Int.reduceNeg, reduceCtorEq, c19_L0, e0, e1, e5, e6, c0, c2, Int.toNat_natCast, gn, w2]
      refine FunI.by (F15 ⟨P, hP, rp.ext xx⟩ (by omega) n) ?_
      rintro _ _ ⟨rfl, rfl⟩
      rw [hhas]
      simp only [go_sem, ↓reduceIte, Nat.reduceEqDiff, Nat.reduceLeDiff, Nat.reduceAdd, Nat.reduceMul, Nat.reduceSub, Nat.reduceBEq, Nat.reduceGT, Nat.reduceLT, Int.reduceLE, Int.reduceLT, Int.reduceNeg, reduceCtorEq, e0, e1, e5, e6, c0, c2, Int.toNat_natCast, gn, w2, cj1, c3]
    all_goals
      have p2 := p.ext xx
      have ptr : (Value.pointer (some { block := b, off := 0 })) = ptrOf b := rfl
      simp only [ptrOf]
      refine FunI.by (F32 p2 ok.nowH n) ?_
      rintro _ H3 ⟨rfl, x3⟩
      rw [es]
      simp only [go_sem, ↓reduceIte, Nat.reduceEqDiff, Nat.reduceLeDiff, Nat.reduceAdd, Nat.reduceMul, Nat.reduceSub, Nat.reduceBEq, Nat.reduceGT, Nat.reduceLT, Int.reduceLE, Int.reduceLT, Int.reduceNeg, reduceCtorEq, e0, e1, e5, e6, c0, c2, Int.toNat_natCast, hget_ext x3 gn, ptrOf]
      refine FunI.by (F31 (p2.ext x3) ok n 0 1073741824 (by omega)) ?_
      rintro _ H4 ⟨v4, rfl, o4, x4⟩
      have x34 := x3.trans (x4.mono x3.size)
      rw [er] at o4 ⊢
      obtain ⟨a4, l4, cc4, rfl⟩ := Sl.form o4.sl
      obtain ⟨a5, cap5, rfl⟩ := Ints.form gi
      simp only [go_sem, ↓reduceIte, Nat.reduceEqDiff, Nat.reduceLeDiff, Nat.reduceAdd, Nat.reduceMul, Nat.reduceSub, Nat.reduceBEq, Nat.reduceGT, Nat.reduceLT, Int.reduceLE, Int.reduceLT, Int.reduceNeg, reduceCtorEq, e0, e1, e5, e6, cj0, cj2, Int.toNat_natCast, hget_ext x34 gd]
      refine FunI.by (F48 _ _ (s.dat x) (s.dat x) _ o4.sl (gi.ext x34) hby hby) ?_
      rintro _ _ ⟨rfl, rfl⟩
      simp only [go_sem, ↓reduceIte, Nat.reduceEqDiff, Nat.reduceLeDiff, Nat.reduceAdd, Nat.reduceMul, Nat.reduceSub, Nat.reduceBEq, Nat.reduceGT, Nat.reduceLT, Int.reduceLE, Int.reduceLT, Int.reduceNeg, reduceCtorEq, decide_true]
      refine FunI.by (F22 _ _) ?_
      rintro _ _ ⟨rfl, rfl⟩
      simp only [go_sem, ↓reduceIte, Nat.reduceEqDiff, Nat.reduceLeDiff, Nat.reduceAdd, Nat.reduceMul, Nat.reduceSub, Nat.reduceBEq, Nat.reduceGT, Nat.reduceLT, Int.reduceLE, Int.reduceLT, Int.reduceNeg, reduceCtorEq]
      refine FunI.by (F22 _ _) ?_
      rintro _ _ ⟨rfl, rfl⟩
      simp only [go_sem, ↓reduceIte, Nat.reduceEqDiff, Nat.reduceLeDiff, Nat.reduceAdd, Nat.reduceMul, Nat.reduceSub, Nat.reduceBEq, Nat.reduceGT, Nat.reduceLT, Int.reduceLE, Int.reduceLT, Int.reduceNeg, reduceCtorEq, e0, e1, e5, e6, cj0, cj2, Int.toNat_natCast, hget_ext x34 gd, w2]
      exact ⟨Hold.mk ⟨i + 1, by simp only [go_sem, ↓reduceIte, Nat.reduceEqDiff, Nat.reduceLeDiff, Nat.reduceAdd, Nat.reduceMul, Nat.reduceSub, Nat.reduceBEq, Nat.reduceGT, Nat.reduceLT, Int.reduceLE, Int.reduceLT, Int.reduceNeg, reduceCtorEq, e0, ptrOf], by simp only [go_sem, ↓reduceIte, Nat.reduceEqDiff, Nat.reduceLeDiff, Nat.reduceAdd, Nat.reduceMul, Nat.reduceSub, Nat.reduceBEq, Nat.reduceGT, Nat.reduceLT, Int.reduceLE, Int.reduceLT, Int.reduceNeg, reduceCtorEq, e1], by simp only [go_sem, ↓reduceIte, Nat.reduceEqDiff, Nat.reduceLeDiff, Nat.reduceAdd, Nat.reduceMul, Nat.reduceSub, Nat.reduceBEq, Nat.reduceGT, Nat.reduceLT, Int.reduceLE, Int.reduceLT, Int.reduceNeg, reduceCtorEq, e5], by simp only [go_sem, ↓reduceIte, Nat.reduceEqDiff, Nat.reduceLeDiff, Nat.reduceAdd, Nat.reduceMul, Nat.reduceSub, Nat.reduceBEq, Nat.reduceGT, Nat.reduceLT, Int.reduceLE, Int.reduceLT, Int.reduceNeg, reduceCtorEq], by omega, x2.trans (x34.mono x2.size)⟩, by omega⟩
  · have c2 : ¬ (i : Int) < L.length := by omega
    simp only [go_sem, ↓reduceIte, Nat.reduceEqDiff, Nat.reduceLeDiff, Nat.reduceAdd, Nat.reduceMul, Nat.reduceSub, Nat.reduceBEq, Nat.reduceGT, Nat.reduceLT, Int.reduceLE, Int.reduceLT, Int.reduceNeg, reduceCtorEq, c19_L0, e0, e1, e5, e6, c2]
    exact xx
end
end Go.Proofs.Ytmkheogjnlmkdaa
