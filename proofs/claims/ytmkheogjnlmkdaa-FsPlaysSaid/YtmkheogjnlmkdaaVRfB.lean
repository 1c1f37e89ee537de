/- The reference: with, told. -/
import Derived.Test.YtmkheogjnlmkdaaVRfA
set_option linter.unusedSimpArgs false
set_option linter.unusedVariables false
set_option maxRecDepth 20000
namespace Go.Proofs.Ytmkheogjnlmkdaa
open Go Go.V
-- 113: pith/pithref8.with
-- 101: pith/pithref8.told
-- 9: string
-- 125: pithref8.Entry
-- 122: []pithref8.Entry
-- 139: pithref8.Done
/-- A directory that the call makes. -/
abbrev EntO (H : Heap) (B : Nat) (v : Value) (es : List En) : Prop := Own H B 125 2 v (entC es)
theorem EntO.add {H : Heap} {B : Nat} {v : Value} {es : List En} (h : EntO H B v es) (e : En) (hl : es.length ≤ 2932031000000) (hB : B ≤ H.size) :
    RunS Try.prog (sAppend #[122, 122] #[v, .slice (some ⟨H.size, 0, none⟩) 1 1]) (H.push (.cells #[.string e.1, .int .i64 e.2] 125)) (fun v' H' => EntO H' B v' (es ++ [e]) ∧ Upto B H H') := by
  refine (append_lit ty122 ty125 rfl (by decide) h (ys := [_, _]) (m := 1) rfl rfl (n := es.length + 1) (by rw [entC_len]; simp; omega) (by omega) (by omega) hB).mono ?_
  rintro v' H' ⟨o, g, _⟩
  exact ⟨by rw [EntO, entC_snoc]; exact o, g.upto h hB⟩
set_option maxHeartbeats 1600000 in
theorem F113 {H : Heap} {v : Value} {es : List En} (hv : Ent H v es) (hl : es.length ≤ 2932030000000) (n : Nm) (x : Nat) :
    Fun Try.prog 113 #[v, .string n, .int .i64 x] H (fun r H' => EntO H' H.size r (withE es n x) ∧ Ext H H') := by
  obtain ⟨a, c, rfl⟩ := ent_form hv
  refine fun_of mixed (args := [_, _, _]) Try.func113 Try.ntmps113 b113 r113 rfl ?_
  simp only [go_sem, ↓reduceIte, Nat.reduceEqDiff, Nat.reduceLeDiff, Nat.reduceAdd, Nat.reduceMul, Nat.reduceSub, Nat.reduceBEq, Nat.reduceGT, Nat.reduceLT, Int.reduceLE, Int.reduceLT, Int.reduceNeg, reduceCtorEq]
  refine LoopI.by mixed (fun ρ H' => ∃ (i : Nat) (m : Value), ρ 0 = .slice a es.length c ∧ ρ 1 = .string n ∧ ρ 2 = .int .i64 x ∧ ρ 7 = m ∧ ρ 8 = .bool (withP n x (es.take i)).2 ∧ ρ 9 = .int .i64 i ∧ i ≤ es.length ∧ EntO H' H.size m (withP n x (es.take i)).1 ∧ Ext H H') (fun ρ _ => es.length - (iof (ρ 9)).toNat) ?_ ?_
  · exact ⟨0, _, by simp only [go_sem, ↓reduceIte, Nat.reduceEqDiff, Nat.reduceLeDiff, Nat.reduceAdd, Nat.reduceMul, Nat.reduceSub, Nat.reduceBEq, Nat.reduceGT, Nat.reduceLT, Int.reduceLE, Int.reduceLT, Int.reduceNeg, reduceCtorEq], by simp only [go_sem, ↓reduceIte, Nat.reduceEqDiff, Nat.reduceLeDiff, Nat.reduceAdd, Nat.reduceMul, Nat.reduceSub, Nat.reduceBEq, Nat.reduceGT, Nat.reduceLT, Int.reduceLE, Int.reduceLT, Int.reduceNeg, reduceCtorEq], by simp only [go_sem, ↓reduceIte, Nat.reduceEqDiff, Nat.reduceLeDiff, Nat.reduceAdd, Nat.reduceMul, Nat.reduceSub, Nat.reduceBEq, Nat.reduceGT, Nat.reduceLT, Int.reduceLE, Int.reduceLT, Int.reduceNeg, reduceCtorEq], by simp only [go_sem, ↓reduceIte, Nat.reduceEqDiff, Nat.reduceLeDiff, Nat.reduceAdd, Nat.reduceMul, Nat.reduceSub, Nat.reduceBEq, Nat.reduceGT, Nat.reduceLT, Int.reduceLE, Int.reduceLT, Int.reduceNeg, reduceCtorEq] <;> rfl, by simp only [go_sem, ↓reduceIte, Nat.reduceEqDiff, Nat.reduceLeDiff, Nat.reduceAdd, Nat.reduceMul, Nat.reduceSub, Nat.reduceBEq, Nat.reduceGT, Nat.reduceLT, Int.reduceLE, Int.reduceLT, Int.reduceNeg, reduceCtorEq] <;> rfl, by simp only [go_sem, ↓reduceIte, Nat.reduceEqDiff, Nat.reduceLeDiff, Nat.reduceAdd, Nat.reduceMul, Nat.reduceSub, Nat.reduceBEq, Nat.reduceGT, Nat.reduceLT, Int.reduceLE, Int.reduceLT, Int.reduceNeg, reduceCtorEq] <;> rfl, by omega, Own.nil, Upto.refl _ _⟩
  rintro ρ H' ⟨i, m, e0, e1, e2, e7, e8, e9, hi, ho, hx⟩
  have hlen := withP_len n x (es.take i)
  rw [List.length_take] at hlen
  have hlen2 : (withP n x (es.take i)).1.length ≤ i + 1 := by
    have : (if (withP n x (es.take i)).2 = true then 1 else 0) ≤ 1 := by split <;> omega
    omega
  by_cases hlt : i < es.length
  · obtain ⟨e, hei⟩ : ∃ p, es[i]? = some p := ⟨_, List.getElem?_eq_getElem (by omega)⟩
    obtain ⟨b, o, rfl, gs, gf⟩ := ent_at (hv.ext hx) hei
    have c1 : (i : Int) < es.length := by omega
    have c0 : (0 : Int) ≤ i := by omega
    have w2 : IntKind.i64.wrap ((i : Int) + 1) = ((i + 1 : Nat) : Int) := by rw [w64_id (by omega) (by omega)]; omega
    have hst := withP_step (n := n) (x := x) hei
    generalize hq : withP n x (es.take i) = q at *
    obtain ⟨l, d⟩ := q
    have hw : withStep n x (l, d) e = ((if d = false ∧ leN n e.1 = true then l ++ [(n, x)] else l) ++ (if e.1 = n then [] else [e]), d || leN n e.1) := rfl
    rw [hw] at hst
    simp only at ho e8 hlen2
    have hle : (Op.bytesLess n.toList e.1.toList || n.toList == e.1.toList) = leN n e.1 := rfl
    have hne : (e.1.toList == n.toList) = decide (e.1 = n) := str_dec _ _
    cases hd : d <;> cases hq2 : leN n e.1 <;> rcases Classical.em (e.1 = n) with hen | hen
    all_goals
      first
      | (have hen2 : decide (e.1 = n) = true := decide_eq_true hen
         rw [if_pos hen] at hst
         rw [hen2] at hne)
      | (have hen2 : decide (e.1 = n) = false := decide_eq_false hen
         rw [if_neg hen] at hst
         rw [hen2] at hne)
      simp only [hd, hq2, Bool.false_or, Bool.true_or, Bool.or_false, Bool.or_true, and_self, and_true, true_and, and_false, false_and, reduceCtorEq, List.append_nil, ↓reduceIte] at hst
      simp only [go_sem, ↓reduceIte, Nat.reduceEqDiff, Nat.reduceLeDiff, Nat.reduceAdd, Nat.reduceMul, Nat.reduceSub, Nat.reduceBEq, Nat.reduceGT, Nat.reduceLT, Int.reduceLE, Int.reduceLT, Int.reduceNeg, reduceCtorEq, c113_L0, e0, e1, e2, e7, e8, e9, hd, c0, c1, w2, Int.toNat_natCast, gs, gf, hle, hq2, hne, Option.bind_some]
    case' false.false.inr => refine RunI.by (EntO.add ho e (by omega) hx.size) ?_
    case' true.false.inr => refine RunI.by (EntO.add ho e (by omega) hx.size) ?_
    case' true.true.inr => refine RunI.by (EntO.add ho e (by omega) hx.size) ?_
    case' false.true.inl => refine RunI.by (EntO.add ho (n, x) (by omega) hx.size) ?_
    case' false.true.inr =>
      refine RunI.by (EntO.add ho (n, x) (by omega) hx.size) ?_
      rintro m1 H1 ⟨o1, x1⟩
      obtain ⟨_, _, h9, gs1, gf1⟩ := ent_at (hv.ext (hx.trans x1)) hei
      cases h9
      simp only [go_sem, ↓reduceIte, Nat.reduceEqDiff, Nat.reduceLeDiff, Nat.reduceAdd, Nat.reduceMul, Nat.reduceSub, Nat.reduceBEq, Nat.reduceGT, Nat.reduceLT, Int.reduceLE, Int.reduceLT, Int.reduceNeg, reduceCtorEq, e0, e1, e2, e7, e8, e9, hd, c0, c1, w2, Int.toNat_natCast, gs1, gf1, hle, hq2, hne, Option.bind_some]
      refine RunI.by (EntO.add o1 e (by simp; omega) (hx.trans x1).size) ?_
      rintro m2 H2 ⟨o2, x2⟩
      simp only [go_sem, ↓reduceIte, Nat.reduceEqDiff, Nat.reduceLeDiff, Nat.reduceAdd, Nat.reduceMul, Nat.reduceSub, Nat.reduceBEq, Nat.reduceGT, Nat.reduceLT, Int.reduceLE, Int.reduceLT, Int.reduceNeg, reduceCtorEq, e0, e1, e2, e9, w2, c1, c0]
      exact ⟨Hold.mk ⟨i + 1, m2, by simp only [go_sem, ↓reduceIte, Nat.reduceEqDiff, Nat.reduceLeDiff, Nat.reduceAdd, Nat.reduceMul, Nat.reduceSub, Nat.reduceBEq, Nat.reduceGT, Nat.reduceLT, Int.reduceLE, Int.reduceLT, Int.reduceNeg, reduceCtorEq, e0], by simp only [go_sem, ↓reduceIte, Nat.reduceEqDiff, Nat.reduceLeDiff, Nat.reduceAdd, Nat.reduceMul, Nat.reduceSub, Nat.reduceBEq, Nat.reduceGT, Nat.reduceLT, Int.reduceLE, Int.reduceLT, Int.reduceNeg, reduceCtorEq, e1], by simp only [go_sem, ↓reduceIte, Nat.reduceEqDiff, Nat.reduceLeDiff, Nat.reduceAdd, Nat.reduceMul, Nat.reduceSub, Nat.reduceBEq, Nat.reduceGT, Nat.reduceLT, Int.reduceLE, Int.reduceLT, Int.reduceNeg, reduceCtorEq, e2], by simp only [go_sem, ↓reduceIte, Nat.reduceEqDiff, Nat.reduceLeDiff, Nat.reduceAdd, Nat.reduceMul, Nat.reduceSub, Nat.reduceBEq, Nat.reduceGT, Nat.reduceLT, Int.reduceLE, Int.reduceLT, Int.reduceNeg, reduceCtorEq], by simp only [go_sem, ↓reduceIte, Nat.reduceEqDiff, Nat.reduceLeDiff, Nat.reduceAdd, Nat.reduceMul, Nat.reduceSub, Nat.reduceBEq, Nat.reduceGT, Nat.reduceLT, Int.reduceLE, Int.reduceLT, Int.reduceNeg, reduceCtorEq, hst], by simp only [go_sem, ↓reduceIte, Nat.reduceEqDiff, Nat.reduceLeDiff, Nat.reduceAdd, Nat.reduceMul, Nat.reduceSub, Nat.reduceBEq, Nat.reduceGT, Nat.reduceLT, Int.reduceLE, Int.reduceLT, Int.reduceNeg, reduceCtorEq], by omega, by rw [hst]; exact o2, (hx.trans x1).trans x2⟩, by omega⟩
    case' false.false.inr => rintro m1 H1 ⟨o1, x1⟩
    case' true.false.inr => rintro m1 H1 ⟨o1, x1⟩
    case' true.true.inr => rintro m1 H1 ⟨o1, x1⟩
    case' false.true.inl => rintro m1 H1 ⟨o1, x1⟩
    all_goals
      first
      | exact ⟨Hold.mk ⟨i + 1, m, by simp only [go_sem, ↓reduceIte, Nat.reduceEqDiff, Nat.reduceLeDiff, Nat.reduceAdd, Nat.reduceMul, Nat.reduceSub, Nat.reduceBEq, Nat.reduceGT, Nat.reduceLT, Int.reduceLE, Int.reduceLT, Int.reduceNeg, reduceCtorEq, e0], by simp only [go_sem, ↓reduceIte, Nat.reduceEqDiff, Nat.reduceLeDiff, Nat.reduceAdd, Nat.reduceMul, Nat.reduceSub, Nat.reduceBEq, Nat.reduceGT, Nat.reduceLT, Int.reduceLE, Int.reduceLT, Int.reduceNeg, reduceCtorEq, e1], by simp only [go_sem, ↓reduceIte, Nat.reduceEqDiff, Nat.reduceLeDiff, Nat.reduceAdd, Nat.reduceMul, Nat.reduceSub, Nat.reduceBEq, Nat.reduceGT, Nat.reduceLT, Int.reduceLE, Int.reduceLT, Int.reduceNeg, reduceCtorEq, e2], by simp only [go_sem, ↓reduceIte, Nat.reduceEqDiff, Nat.reduceLeDiff, Nat.reduceAdd, Nat.reduceMul, Nat.reduceSub, Nat.reduceBEq, Nat.reduceGT, Nat.reduceLT, Int.reduceLE, Int.reduceLT, Int.reduceNeg, reduceCtorEq, e7], by simp only [go_sem, ↓reduceIte, Nat.reduceEqDiff, Nat.reduceLeDiff, Nat.reduceAdd, Nat.reduceMul, Nat.reduceSub, Nat.reduceBEq, Nat.reduceGT, Nat.reduceLT, Int.reduceLE, Int.reduceLT, Int.reduceNeg, reduceCtorEq, hst, e8, hd], by simp only [go_sem, ↓reduceIte, Nat.reduceEqDiff, Nat.reduceLeDiff, Nat.reduceAdd, Nat.reduceMul, Nat.reduceSub, Nat.reduceBEq, Nat.reduceGT, Nat.reduceLT, Int.reduceLE, Int.reduceLT, Int.reduceNeg, reduceCtorEq], by omega, by rw [hst]; exact ho, hx⟩, by omega⟩
      | (obtain ⟨_, _, h9, gs1, gf1⟩ := ent_at (hv.ext (hx.trans x1)) hei
         cases h9
         simp only [go_sem, ↓reduceIte, Nat.reduceEqDiff, Nat.reduceLeDiff, Nat.reduceAdd, Nat.reduceMul, Nat.reduceSub, Nat.reduceBEq, Nat.reduceGT, Nat.reduceLT, Int.reduceLE, Int.reduceLT, Int.reduceNeg, reduceCtorEq, e0, e1, e2, e7, e8, e9, hd, c0, c1, w2, Int.toNat_natCast, gs1, gf1, hle, hq2, hne, Option.bind_some]
         exact ⟨Hold.mk ⟨i + 1, m1, by simp only [go_sem, ↓reduceIte, Nat.reduceEqDiff, Nat.reduceLeDiff, Nat.reduceAdd, Nat.reduceMul, Nat.reduceSub, Nat.reduceBEq, Nat.reduceGT, Nat.reduceLT, Int.reduceLE, Int.reduceLT, Int.reduceNeg, reduceCtorEq, e0], by simp only [go_sem, ↓reduceIte, Nat.reduceEqDiff, Nat.reduceLeDiff, Nat.reduceAdd, Nat.reduceMul, Nat.reduceSub, Nat.reduceBEq, Nat.reduceGT, Nat.reduceLT, Int.reduceLE, Int.reduceLT, Int.reduceNeg, reduceCtorEq, e1], by simp only [go_sem, ↓reduceIte, Nat.reduceEqDiff, Nat.reduceLeDiff, Nat.reduceAdd, Nat.reduceMul, Nat.reduceSub, Nat.reduceBEq, Nat.reduceGT, Nat.reduceLT, Int.reduceLE, Int.reduceLT, Int.reduceNeg, reduceCtorEq, e2], by simp only [go_sem, ↓reduceIte, Nat.reduceEqDiff, Nat.reduceLeDiff, Nat.reduceAdd, Nat.reduceMul, Nat.reduceSub, Nat.reduceBEq, Nat.reduceGT, Nat.reduceLT, Int.reduceLE, Int.reduceLT, Int.reduceNeg, reduceCtorEq], by simp only [go_sem, ↓reduceIte, Nat.reduceEqDiff, Nat.reduceLeDiff, Nat.reduceAdd, Nat.reduceMul, Nat.reduceSub, Nat.reduceBEq, Nat.reduceGT, Nat.reduceLT, Int.reduceLE, Int.reduceLT, Int.reduceNeg, reduceCtorEq, hst, e8, hd], by simp only [go_sem, ↓reduceIte, Nat.reduceEqDiff, Nat.reduceLeDiff, Nat.reduceAdd, Nat.reduceMul, Nat.reduceSub, Nat.reduceBEq, Nat.reduceGT, Nat.reduceLT, Int.reduceLE, Int.reduceLT, Int.reduceNeg, reduceCtorEq], by omega, by rw [hst]; exact o1, hx.trans x1⟩, by omega⟩)
  · have c1 : ¬ (i : Int) < es.length := by omega
    have : i = es.length := by omega
    subst this
    rw [List.take_of_length_le (Nat.le_refl _)] at e8 ho hlen2
    unfold withE
    generalize hq : withP n x es = q at *
    obtain ⟨l, d⟩ := q
    cases d
    · simp only [go_sem, ↓reduceIte, Nat.reduceEqDiff, Nat.reduceLeDiff, Nat.reduceAdd, Nat.reduceMul, Nat.reduceSub, Nat.reduceBEq, Nat.reduceGT, Nat.reduceLT, Int.reduceLE, Int.reduceLT, Int.reduceNeg, reduceCtorEq, c113_L0, e0, e1, e2, e7, e8, e9, c1]
      refine RunI.by (EntO.add ho (n, x) (by show l.length ≤ _; simp only at hlen2; omega) hx.size) ?_
      rintro v' H2 ⟨o2, x2⟩
      simp only [go_sem, ↓reduceIte, Nat.reduceEqDiff, Nat.reduceLeDiff, Nat.reduceAdd, Nat.reduceMul, Nat.reduceSub, Nat.reduceBEq, Nat.reduceGT, Nat.reduceLT, Int.reduceLE, Int.reduceLT, Int.reduceNeg, reduceCtorEq]
      exact ⟨o2, hx.trans x2⟩
    · simp only [go_sem, ↓reduceIte, Nat.reduceEqDiff, Nat.reduceLeDiff, Nat.reduceAdd, Nat.reduceMul, Nat.reduceSub, Nat.reduceBEq, Nat.reduceGT, Nat.reduceLT, Int.reduceLE, Int.reduceLT, Int.reduceNeg, reduceCtorEq, c113_L0, e0, e1, e2, e7, e8, e9, c1, List.append_nil]
      exact ⟨ho, hx⟩
set_option maxHeartbeats 1600000 in
theorem F101 {H : Heap} {v : Value} {es : List En} (hv : Ent H v es) (hl : es.length ≤ 2932020000000) (x : Nat) (n : Nm) :
    Fun Try.prog 101 #[v, .agg #[.int .i64 x, .string n]] H (fun r H' => EntO H' H.size r (toldE es x n) ∧ Ext H H') := by
  obtain ⟨a, c, rfl⟩ := ent_form hv
  refine fun_of mixed (args := [_, _]) Try.func101 Try.ntmps101 b101 r101 rfl ?_
  simp only [go_sem, ↓reduceIte, Nat.reduceEqDiff, Nat.reduceLeDiff, Nat.reduceAdd, Nat.reduceMul, Nat.reduceSub, Nat.reduceBEq, Nat.reduceGT, Nat.reduceLT, Int.reduceLE, Int.reduceLT, Int.reduceNeg, reduceCtorEq]
  have h0 : Ext H (H.push (.cells #[.int .i64 x, .string n] 139)) := Ext.push _
  have k0 : (H.push (.cells #[.int .i64 x, .string n] 139))[H.size]? = some (.cells #[.int .i64 x, .string n] 139) := push_new
  generalize hG : H.push (.cells #[.int .i64 x, .string n] 139) = G at *
  have hG1 : G.size = H.size + 1 := by rw [← hG]; simp
  have gG : ∀ {H' : Heap}, Ext G H' → hget H' H.size 0 = some (.int .i64 x) ∧ hget H' H.size 1 = some (.string n) := fun hx => by
    have : _ := hx.get H.size (by omega)
    rw [k0] at this
    simp only [hget_cells this]
    exact ⟨rfl, rfl⟩
  refine LoopI.by mixed (fun ρ H' => ∃ (i : Nat) (m : Value), ρ 0 = .slice a es.length c ∧ ρ 3 = .pointer (some ⟨H.size, 0, none⟩) ∧ ρ 5 = m ∧ ρ 6 = .int .i64 i ∧ i ≤ es.length ∧ EntO H' G.size m (outE (es.take i) x) ∧ Ext G H') (fun ρ _ => es.length - (iof (ρ 6)).toNat) ?_ ?_
  · exact ⟨0, _, by simp only [go_sem, ↓reduceIte, Nat.reduceEqDiff, Nat.reduceLeDiff, Nat.reduceAdd, Nat.reduceMul, Nat.reduceSub, Nat.reduceBEq, Nat.reduceGT, Nat.reduceLT, Int.reduceLE, Int.reduceLT, Int.reduceNeg, reduceCtorEq] <;> rfl, by simp only [go_sem, ↓reduceIte, Nat.reduceEqDiff, Nat.reduceLeDiff, Nat.reduceAdd, Nat.reduceMul, Nat.reduceSub, Nat.reduceBEq, Nat.reduceGT, Nat.reduceLT, Int.reduceLE, Int.reduceLT, Int.reduceNeg, reduceCtorEq] <;> rfl, by simp only [go_sem, ↓reduceIte, Nat.reduceEqDiff, Nat.reduceLeDiff, Nat.reduceAdd, Nat.reduceMul, Nat.reduceSub, Nat.reduceBEq, Nat.reduceGT, Nat.reduceLT, Int.reduceLE, Int.reduceLT, Int.reduceNeg, reduceCtorEq] <;> rfl, by simp only [go_sem, ↓reduceIte, Nat.reduceEqDiff, Nat.reduceLeDiff, Nat.reduceAdd, Nat.reduceMul, Nat.reduceSub, Nat.reduceBEq, Nat.reduceGT, Nat.reduceLT, Int.reduceLE, Int.reduceLT, Int.reduceNeg, reduceCtorEq] <;> rfl, by omega, Own.nil, Upto.refl _ _⟩
  rintro ρ H' ⟨i, m, e0, e3, e5, e6, hi, ho, hx⟩
  obtain ⟨gx, gn⟩ := gG hx
  have hx0 : Ext H H' := h0.ext (by omega) hx
  have hlen := outE_len (es.take i) x
  rw [List.length_take] at hlen
  by_cases hlt : i < es.length
  · obtain ⟨e, hei⟩ : ∃ p, es[i]? = some p := ⟨_, List.getElem?_eq_getElem (by omega)⟩
    obtain ⟨b, o, rfl, gs, gf⟩ := ent_at (hv.ext hx0) hei
    have c1 : (i : Int) < es.length := by omega
    have c0 : (0 : Int) ≤ i := by omega
    have w2 : IntKind.i64.wrap ((i : Int) + 1) = ((i + 1 : Nat) : Int) := by rw [w64_id (by omega) (by omega)]; omega
    have hst : outE (es.take (i + 1)) x = (outE (es.take i) x) ++ if e.2 ≠ x then [e] else [] := by
      unfold outE; rw [List.take_add_one, hei, List.filter_append]
      by_cases h : e.2 = x <;> simp [h]
    rcases Classical.em (e.2 = x) with hen | hen
    · rw [if_neg (by simp [hen]), List.append_nil] at hst
      have c4 : (e.2 : Int) = x := by omega
      simp only [go_sem, ↓reduceIte, Nat.reduceEqDiff, Nat.reduceLeDiff, Nat.reduceAdd, Nat.reduceMul, Nat.reduceSub, Nat.reduceBEq, Nat.reduceGT, Nat.reduceLT, Int.reduceLE, Int.reduceLT, Int.reduceNeg, reduceCtorEq, c101_L0, e0, e3, e5, e6, c0, c1, w2, Int.toNat_natCast, gs, gf, gx, gn, c4, Option.bind_some]
      exact ⟨Hold.mk ⟨i + 1, m, by simp only [go_sem, ↓reduceIte, Nat.reduceEqDiff, Nat.reduceLeDiff, Nat.reduceAdd, Nat.reduceMul, Nat.reduceSub, Nat.reduceBEq, Nat.reduceGT, Nat.reduceLT, Int.reduceLE, Int.reduceLT, Int.reduceNeg, reduceCtorEq, e0], by simp only [go_sem, ↓reduceIte, Nat.reduceEqDiff, Nat.reduceLeDiff, Nat.reduceAdd, Nat.reduceMul, Nat.reduceSub, Nat.reduceBEq, Nat.reduceGT, Nat.reduceLT, Int.reduceLE, Int.reduceLT, Int.reduceNeg, reduceCtorEq, e3], by simp only [go_sem, ↓reduceIte, Nat.reduceEqDiff, Nat.reduceLeDiff, Nat.reduceAdd, Nat.reduceMul, Nat.reduceSub, Nat.reduceBEq, Nat.reduceGT, Nat.reduceLT, Int.reduceLE, Int.reduceLT, Int.reduceNeg, reduceCtorEq, e5], by simp only [go_sem, ↓reduceIte, Nat.reduceEqDiff, Nat.reduceLeDiff, Nat.reduceAdd, Nat.reduceMul, Nat.reduceSub, Nat.reduceBEq, Nat.reduceGT, Nat.reduceLT, Int.reduceLE, Int.reduceLT, Int.reduceNeg, reduceCtorEq], by omega, by rw [hst]; exact ho, hx⟩, by omega⟩
    · rw [if_pos hen] at hst
      have c4 : ¬ (e.2 : Int) = x := by omega
      simp only [go_sem, ↓reduceIte, Nat.reduceEqDiff, Nat.reduceLeDiff, Nat.reduceAdd, Nat.reduceMul, Nat.reduceSub, Nat.reduceBEq, Nat.reduceGT, Nat.reduceLT, Int.reduceLE, Int.reduceLT, Int.reduceNeg, reduceCtorEq, c101_L0, e0, e3, e5, e6, c0, c1, w2, Int.toNat_natCast, gs, gf, gx, gn, c4, Option.bind_some]
      refine RunI.by (EntO.add ho e (by omega) hx.size) ?_
      rintro m1 H1 ⟨o1, x1⟩
      simp only [go_sem, ↓reduceIte, Nat.reduceEqDiff, Nat.reduceLeDiff, Nat.reduceAdd, Nat.reduceMul, Nat.reduceSub, Nat.reduceBEq, Nat.reduceGT, Nat.reduceLT, Int.reduceLE, Int.reduceLT, Int.reduceNeg, reduceCtorEq, e0, e3, e6, w2]
      exact ⟨Hold.mk ⟨i + 1, m1, by simp only [go_sem, ↓reduceIte, Nat.reduceEqDiff, Nat.reduceLeDiff, Nat.reduceAdd, Nat.reduceMul, Nat.reduceSub, Nat.reduceBEq, Nat.reduceGT, Nat.reduceLT, Int.reduceLE, Int.reduceLT, Int.reduceNeg, reduceCtorEq, e0], by simp only [go_sem, ↓reduceIte, Nat.reduceEqDiff, Nat.reduceLeDiff, Nat.reduceAdd, Nat.reduceMul, Nat.reduceSub, Nat.reduceBEq, Nat.reduceGT, Nat.reduceLT, Int.reduceLE, Int.reduceLT, Int.reduceNeg, reduceCtorEq, e3], by simp only [go_sem, ↓reduceIte, Nat.reduceEqDiff, Nat.reduceLeDiff, Nat.reduceAdd, Nat.reduceMul, Nat.reduceSub, Nat.reduceBEq, Nat.reduceGT, Nat.reduceLT, Int.reduceLE, Int.reduceLT, Int.reduceNeg, reduceCtorEq], by simp only [go_sem, ↓reduceIte, Nat.reduceEqDiff, Nat.reduceLeDiff, Nat.reduceAdd, Nat.reduceMul, Nat.reduceSub, Nat.reduceBEq, Nat.reduceGT, Nat.reduceLT, Int.reduceLE, Int.reduceLT, Int.reduceNeg, reduceCtorEq], by omega, by rw [hst]; exact o1, hx.trans x1⟩, by omega⟩
  · have c1 : ¬ (i : Int) < es.length := by omega
    have : i = es.length := by omega
    subst this
    rw [List.take_of_length_le (Nat.le_refl _)] at ho hlen
    unfold toldE
    rcases Classical.em (n = emptyNm) with hn | hn
    · have c2 : (n.toList == emptyNm.toList) = true := by rw [str_dec]; exact decide_eq_true hn
      have c3 : (⟨#[]⟩ : ByteArray) = emptyNm := rfl
      rw [if_pos hn]
      simp only [go_sem, ↓reduceIte, Nat.reduceEqDiff, Nat.reduceLeDiff, Nat.reduceAdd, Nat.reduceMul, Nat.reduceSub, Nat.reduceBEq, Nat.reduceGT, Nat.reduceLT, Int.reduceLE, Int.reduceLT, Int.reduceNeg, reduceCtorEq, c101_L0, e0, e3, e5, e6, c1, gx, gn, c3, c2]
      exact ⟨ho.mono (by omega), hx0⟩
    · have c2 : (n.toList == emptyNm.toList) = false := by rw [str_dec]; exact decide_eq_false hn
      have c3 : (⟨#[]⟩ : ByteArray) = emptyNm := rfl
      rw [if_neg hn]
      simp only [go_sem, ↓reduceIte, Nat.reduceEqDiff, Nat.reduceLeDiff, Nat.reduceAdd, Nat.reduceMul, Nat.reduceSub, Nat.reduceBEq, Nat.reduceGT, Nat.reduceLT, Int.reduceLE, Int.reduceLT, Int.reduceNeg, reduceCtorEq, c101_L0, e0, e3, e5, e6, c1, gx, gn, c3, c2]
      refine FunI.by (F113 ho.sl (by omega) n x) ?_
      rintro r H1 ⟨o1, x1⟩
      simp only [go_sem, ↓reduceIte, Nat.reduceEqDiff, Nat.reduceLeDiff, Nat.reduceAdd, Nat.reduceMul, Nat.reduceSub, Nat.reduceBEq, Nat.reduceGT, Nat.reduceLT, Int.reduceLE, Int.reduceLT, Int.reduceNeg, reduceCtorEq]
      exact ⟨o1.mono (by have := hx.size; omega), hx0.trans (x1.mono (by have := hx0.size; omega))⟩
end Go.Proofs.Ytmkheogjnlmkdaa
