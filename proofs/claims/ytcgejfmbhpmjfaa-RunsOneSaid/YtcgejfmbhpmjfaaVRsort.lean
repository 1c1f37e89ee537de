/- pithref11.Sort. -/
import Derived.Test.YtcgejfmbhpmjfaaVBoth
import Derived.Test.YtcgejfmbhpmjfaaVMark
set_option linter.unusedSimpArgs false
set_option linter.unusedVariables false
set_option maxRecDepth 20000
namespace Go.Proofs.Ytcgejfmbhpmjfaa
open Go Go.V
-- 46: pith/pithref11.both
-- 17: pith/pithref11.Sort
-- 3: int
-- 24: pith/api.Pair
-- 22: []api.Pair
-- 60: [][]api.Pair

/-- A row of rows of arcs, all its own. (The row's elements are slices of arcs: type 22.) -/
def OwnAll (H : Heap) (B B' : Nat) (v : Value) (ls : List (List Pr)) : Prop := ∃ vs, Own H B' 22 1 v vs ∧ All2 (fun u l => Own H B 24 2 u (cp l)) vs ls
section
variable {H H' : Heap} {B B' : Nat} {v : Value} {ls : List (List Pr)}
theorem OwnAll.ext (h : OwnAll H B B' v ls) (hx : Ext H H') : OwnAll H' B B' v ls := by
  obtain ⟨vs, h1, h2⟩ := h
  exact ⟨vs, h1.ext hx, h2.mono fun _ _ h => h.ext hx⟩
theorem OwnAll.mono {b b' : Nat} (h : OwnAll H B B' v ls) (h1 : b ≤ B) (h2 : b' ≤ B') : OwnAll H b b' v ls := by
  obtain ⟨vs, h3, h4⟩ := h
  exact ⟨vs, h3.mono h2, h4.mono fun _ _ h => h.mono h1⟩
theorem OwnAll.form (h : OwnAll H B B' v ls) : ∃ a cap, v = .slice a ls.length cap := by
  obtain ⟨vs, h1, h2⟩ := h
  obtain ⟨a, len, cap, rfl⟩ := Sl.form h1.sl
  have e1 := Sl.length h1.sl
  have e2 := h2.length
  exact ⟨a, cap, by rw [show ls.length = len by omega]⟩
theorem OwnAll.get {a : Option Addr} {len cap : Nat} (h : OwnAll H B B' (.slice a len cap) ls) {i : Nat} (hi : i < ls.length) : ∃ g u, a = some ⟨g, 0, none⟩ ∧ hget H g i = some u ∧ Own H B 24 2 u (cp (ls.getD i [])) := by
  obtain ⟨vs, h1, h2⟩ := h
  obtain ⟨u, hu, hr⟩ := h2.get (i := i) (b := ls[i]) (List.getElem?_eq_getElem hi)
  have hil : i < vs.length := (List.getElem?_eq_some_iff.1 hu).1
  have e1 := Sl.length h1.sl
  rcases h1 with ⟨h3, h4⟩ | ⟨g, len', cap', c, h3, h4⟩
  · rw [h4] at hil; simp at hil
  · cases h3
    refine ⟨g, u, rfl, ?_, ?_⟩
    · have := Sl.get (Own.sl (.inr ⟨g, len, cap, c, rfl, h4⟩)) (i := i) (by omega)
      rw [Nat.zero_add] at this
      rw [this, hu]
    · rw [List.getD_eq_getElem?_getD, List.getElem?_eq_getElem hi]
      exact hr
theorem OwnAll.nil : OwnAll H B B' (.slice none 0 0) [] := ⟨[], Own.nil, trivial⟩
end
/-- append(v, u). -/
theorem append_all {H : Heap} {B B' : Nat} {v u : Value} {ls : List (List Pr)} {l : List Pr} (ho : OwnAll H B B' v ls) (hu : Own H B 24 2 u (cp l)) (hB : B' ≤ H.size) (hl : ls.length ≤ 5864062010000) {cs : Array Value} (hc : cs = #[u]) :
    RunS Try.prog (sAppend #[60, 60] #[v, .slice (some ⟨H.size, 0, none⟩) 1 1]) (H.push (.cells cs 22)) (fun v2 H2 => OwnAll H2 B B' v2 (ls ++ [l]) ∧ Upto B' H H2) := by
  subst hc
  obtain ⟨vs, h1, h2⟩ := ho
  have e2 := h2.length
  have h1c : [u].all Value.oneCell' = true := by
    rcases hu with ⟨rfl, _⟩ | ⟨g, len, cap, c, rfl, _⟩ <;> rfl
  refine (append_lit ty60 ty22 rfl (by decide) h1 (ys := [u]) (m := 1) rfl h1c (n := ls.length + 1) (by simp; omega) (by show (ls.length + 1) * 24 ≤ _; omega) (by omega) hB).mono ?_
  rintro v2 H2 ⟨q1, q2, _⟩
  refine ⟨⟨vs ++ [u], q1, All2.snoc ?_ (h2.mono fun _ _ h => ?_)⟩, q2.upto h1 hB⟩
  · exact hu.byTag h1 q2.but (by decide)
  · exact h.byTag h1 q2.but (by decide)
/-- All that stands in rows. -/
theorem flat_snoc (ls : List (List Pr)) (l : List Pr) (x : Pr) : x ∈ (ls ++ [l]).flatten ↔ x ∈ ls.flatten ∨ x ∈ l := by simp
theorem flat_take {ls : List (List Pr)} {i : Nat} (hi : i < ls.length) : (ls.take (i + 1)).flatten = (ls.take i).flatten ++ ls.getD i [] := by
  rw [take_succ_getD hi [], List.flatten_append]; simp
structure RI (ls ns : List (List Pr)) (i : Nat) : Prop where
  up : ∀ l ∈ ns, Up l
  mem : ∀ x, x ∈ ns.flatten ↔ x ∈ (ls.take i).flatten
  len : ns.flatten.length ≤ (ls.take i).flatten.length
theorem sub_len (ls : List (List Pr)) (i : Nat) : (ls.take i).flatten.length ≤ ls.flatten.length := by
  have : ls.flatten.length = (ls.take i).flatten.length + (ls.drop i).flatten.length := by
    rw [← List.length_append, ← List.flatten_append, List.take_append_drop]
  omega
theorem RI.one {ls ns : List (List Pr)} {i : Nat} (h : RI ls ns i) (hi : i < ls.length) (hu : Up (ls.getD i [])) : RI ls (ns ++ [ls.getD i []]) (i + 1) := by
  refine ⟨fun l hl => ?_, fun x => ?_, ?_⟩
  · rw [List.mem_append, List.mem_singleton] at hl
    rcases hl with hl | rfl
    · exact h.up l hl
    · exact hu
  · rw [flat_snoc, flat_take hi, List.mem_append, h.mem]
  · have := h.len
    rw [flat_take hi]; simp at *; omega
theorem RI.two {ls ns : List (List Pr)} {i : Nat} {l : List Pr} (h : RI ls ns i) (hi : i + 1 < ls.length) (hu : Up l) (hm : ∀ x, x ∈ l ↔ x ∈ ls.getD i [] ∨ x ∈ ls.getD (i + 1) []) (hl : l.length ≤ (ls.getD i []).length + (ls.getD (i + 1) []).length) : RI ls (ns ++ [l]) (i + 2) := by
  refine ⟨fun l' hl' => ?_, fun x => ?_, ?_⟩
  · rw [List.mem_append, List.mem_singleton] at hl'
    rcases hl' with hl' | rfl
    · exact h.up l' hl'
    · exact hu
  · rw [flat_snoc, flat_take hi, flat_take (by omega), List.mem_append, List.mem_append, h.mem, hm, or_assoc]
  · have := h.len
    rw [flat_take hi, flat_take (by omega)]; simp at *; omega
theorem one_flat : ∀ ps : List Pr, (ps.map fun p => [p]).flatten = ps
  | [] => rfl
  | p :: ps => by rw [List.map_cons, List.flatten_cons, one_flat ps]; rfl
set_option maxHeartbeats 1600000 in
theorem F17 (v : Value) (ps : List Pr) (H : Heap) (hv : Prs H v ps) (hl : ps.length ≤ 4096093020000) :
    Fun Try.prog 17 #[v] H (fun r H' => Own H' H.size 24 2 r (cp (sortP ps)) ∧ Ext H H') := by
  obtain ⟨a, c, rfl⟩ := prs_form hv
  refine fun_of mixed (args := [_]) Try.func17 Try.ntmps17 b17 r17 rfl ?_
  simp only [go_sem, ↓reduceIte, Nat.reduceEqDiff, Nat.reduceLeDiff, Nat.reduceAdd, Nat.reduceMul, Nat.reduceSub, Nat.reduceBEq, Nat.reduceGT, Nat.reduceLT, Int.reduceLE, Int.reduceLT, Int.reduceNeg, reduceCtorEq]
  refine LoopI.by mixed (fun ρ H' => ∃ (i : Nat) (v' : Value), ρ 0 = .slice a ps.length c ∧ ρ 3 = v' ∧ ρ 4 = .int .i64 i ∧ i ≤ ps.length ∧ OwnAll H' H.size H.size v' ((ps.take i).map fun p => [p]) ∧ Ext H H') (fun ρ _ => ps.length - (iof (ρ 4)).toNat) ?_ ?_
  · exact ⟨0, _, by simp only [go_sem, ↓reduceIte, Nat.reduceEqDiff, Nat.reduceLeDiff, Nat.reduceAdd, Nat.reduceMul, Nat.reduceSub, Nat.reduceBEq, Nat.reduceGT, Nat.reduceLT, Int.reduceLE, Int.reduceLT, Int.reduceNeg, reduceCtorEq], rfl, by simp only [go_sem, ↓reduceIte, Nat.reduceEqDiff, Nat.reduceLeDiff, Nat.reduceAdd, Nat.reduceMul, Nat.reduceSub, Nat.reduceBEq, Nat.reduceGT, Nat.reduceLT, Int.reduceLE, Int.reduceLT, Int.reduceNeg, reduceCtorEq]; rfl, by omega, by simp only [go_sem, ↓reduceIte, Nat.reduceEqDiff, Nat.reduceLeDiff, Nat.reduceAdd, Nat.reduceMul, Nat.reduceSub, Nat.reduceBEq, Nat.reduceGT, Nat.reduceLT, Int.reduceLE, Int.reduceLT, Int.reduceNeg, reduceCtorEq]; exact OwnAll.nil, Upto.refl _ _⟩
  rintro ρ H1 ⟨i, v', e0, e3, e4, hi, ho, hx⟩
  by_cases hlt : i < ps.length
  · have c1 : (i : Int) < ps.length := by omega
    have c0 : (0 : Int) ≤ i := by omega
    obtain ⟨b, o, rfl⟩ := prs_at hv (by omega)
    obtain ⟨g1, g2⟩ := prs_get (prs_ext hv hx) hlt
    simp only [go_sem, ↓reduceIte, Nat.reduceEqDiff, Nat.reduceLeDiff, Nat.reduceAdd, Nat.reduceMul, Nat.reduceSub, Nat.reduceBEq, Nat.reduceGT, Nat.reduceLT, Int.reduceLE, Int.reduceLT, Int.reduceNeg, reduceCtorEq, c17_L0, e0, e3, e4, c0, c1, g1, g2, Int.toNat_natCast, Option.bind_some]
    have hu : Own (H1.push (.cells #[.int .i64 (ps.getD i (0, 0)).1, .int .i64 (ps.getD i (0, 0)).2] 24)) H.size 24 2 (.slice (some ⟨H1.size, 0, none⟩) 1 1) (cp [ps.getD i (0, 0)]) :=
      .inr ⟨H1.size, 1, 1, _, rfl, hx.size, push_new, Nat.le_refl _, by unfold maxLen; omega, rfl, rfl, rfl⟩
    have hsz : (H1.push (.cells #[.int .i64 (ps.getD i (0, 0)).1, .int .i64 (ps.getD i (0, 0)).2] 24)).size = H1.size + 1 := by simp
    refine RunI.by (append_all (ho.ext (Ext.push _)) hu (by rw [hsz]; have := hx.size; omega) (by simp; omega) rfl) ?_
    rintro v2 H2 ⟨q1, q2⟩
    simp only [go_sem, ↓reduceIte, Nat.reduceEqDiff, Nat.reduceLeDiff, Nat.reduceAdd, Nat.reduceMul, Nat.reduceSub, Nat.reduceBEq, Nat.reduceGT, Nat.reduceLT, Int.reduceLE, Int.reduceLT, Int.reduceNeg, reduceCtorEq, e4, w64_id (n := (i : Int) + 1) (by omega) (by omega)]
    refine ⟨Hold.mk ⟨i + 1, v2, by simp only [go_sem, ↓reduceIte, Nat.reduceEqDiff, Nat.reduceLeDiff, Nat.reduceAdd, Nat.reduceMul, Nat.reduceSub, Nat.reduceBEq, Nat.reduceGT, Nat.reduceLT, Int.reduceLE, Int.reduceLT, Int.reduceNeg, reduceCtorEq, e0], by simp only [go_sem, ↓reduceIte, Nat.reduceEqDiff, Nat.reduceLeDiff, Nat.reduceAdd, Nat.reduceMul, Nat.reduceSub, Nat.reduceBEq, Nat.reduceGT, Nat.reduceLT, Int.reduceLE, Int.reduceLT, Int.reduceNeg, reduceCtorEq], by simp only [go_sem, ↓reduceIte, Nat.reduceEqDiff, Nat.reduceLeDiff, Nat.reduceAdd, Nat.reduceMul, Nat.reduceSub, Nat.reduceBEq, Nat.reduceGT, Nat.reduceLT, Int.reduceLE, Int.reduceLT, Int.reduceNeg, reduceCtorEq]; rfl, by omega, ?_, hx.trans (((Ext.push _).mono hx.size).trans q2)⟩, by omega⟩
    rw [take_succ_getD hlt (0, 0), List.map_append]
    exact q1
  have c1 : ¬ (i : Int) < ps.length := by omega
  simp only [go_sem, ↓reduceIte, Nat.reduceEqDiff, Nat.reduceLeDiff, Nat.reduceAdd, Nat.reduceMul, Nat.reduceSub, Nat.reduceBEq, Nat.reduceGT, Nat.reduceLT, Int.reduceLE, Int.reduceLT, Int.reduceNeg, reduceCtorEq, c17_L0, e0, e3, e4, c1]
  rw [List.take_of_length_le (by omega)] at ho
  have hf : (ps.map fun p => [p]).flatten = ps := one_flat ps
  have hm0 : ∀ x, x ∈ (ps.map fun p => [p]).flatten ↔ x ∈ ps := by rw [hf]; exact fun x => Iff.rfl
  have hl0 : (ps.map fun p => [p]).flatten.length ≤ ps.length := by rw [hf]; exact Nat.le_refl _
  refine LoopI.by mixed (fun ρ H' => ∃ (ls : List (List Pr)) (v' : Value), ρ 3 = v' ∧ OwnAll H' H.size H.size v' ls ∧ (∀ l ∈ ls, Up l) ∧ (∀ x, x ∈ ls.flatten ↔ x ∈ ps) ∧ ls.flatten.length ≤ ps.length ∧ ls.length ≤ ps.length ∧ Ext H H') (fun ρ _ => match ρ 3 with | .slice _ n _ => n | _ => 0) ?_ ?_
  · refine ⟨_, v', by simp only [go_sem, ↓reduceIte, Nat.reduceEqDiff, Nat.reduceLeDiff, Nat.reduceAdd, Nat.reduceMul, Nat.reduceSub, Nat.reduceBEq, Nat.reduceGT, Nat.reduceLT, Int.reduceLE, Int.reduceLT, Int.reduceNeg, reduceCtorEq, e3], ho, fun l hl => ?_, hm0, hl0, by simp, hx⟩
    obtain ⟨p, _, rfl⟩ := List.mem_map.1 hl
    exact List.pairwise_singleton _ _
  clear e0 e3 e4 ho hm0 hl0 hx c1
  rintro ρ H1 ⟨ls, v', e3, ho, hup, hmem, hlen, hn, hx⟩
  obtain ⟨a1, c1, rfl⟩ := ho.form
  by_cases hlt : 1 < ls.length
  · have c1' : (1 : Int) < ls.length := by omega
    simp only [go_sem, ↓reduceIte, Nat.reduceEqDiff, Nat.reduceLeDiff, Nat.reduceAdd, Nat.reduceMul, Nat.reduceSub, Nat.reduceBEq, Nat.reduceGT, Nat.reduceLT, Int.reduceLE, Int.reduceLT, Int.reduceNeg, reduceCtorEq, c17_L2, e3, c1']
    refine LoopI.by mixed (fun ρ H' => ∃ (i : Nat) (ns : List (List Pr)) (v' : Value), ρ 3 = .slice a1 ls.length c1 ∧ ρ 5 = v' ∧ ρ 6 = .int .i64 i ∧ i = 2 * ns.length ∧ i ≤ ls.length + 1 ∧ OwnAll H' H.size H1.size v' ns ∧ RI ls ns i ∧ Ext H1 H') (fun ρ _ => ls.length + 1 - (iof (ρ 6)).toNat) ?_ ?_
    · exact ⟨0, [], _, by simp only [go_sem, ↓reduceIte, Nat.reduceEqDiff, Nat.reduceLeDiff, Nat.reduceAdd, Nat.reduceMul, Nat.reduceSub, Nat.reduceBEq, Nat.reduceGT, Nat.reduceLT, Int.reduceLE, Int.reduceLT, Int.reduceNeg, reduceCtorEq, e3], rfl, by simp only [go_sem, ↓reduceIte, Nat.reduceEqDiff, Nat.reduceLeDiff, Nat.reduceAdd, Nat.reduceMul, Nat.reduceSub, Nat.reduceBEq, Nat.reduceGT, Nat.reduceLT, Int.reduceLE, Int.reduceLT, Int.reduceNeg, reduceCtorEq]; rfl, rfl, by omega, by simp only [go_sem, ↓reduceIte, Nat.reduceEqDiff, Nat.reduceLeDiff, Nat.reduceAdd, Nat.reduceMul, Nat.reduceSub, Nat.reduceBEq, Nat.reduceGT, Nat.reduceLT, Int.reduceLE, Int.reduceLT, Int.reduceNeg, reduceCtorEq]; exact OwnAll.nil, ⟨by simp, by simp, by simp⟩, Upto.refl _ _⟩
    have e3' := e3
    clear e3
    rintro ρ' H2 ⟨i, ns, v2, e3, e5, e6, hin, hi, on, ri, hx1⟩
    have ol := ho.ext hx1
    have hx2 := hx.trans (hx1.mono hx.size)
    have hup' : ∀ {j : Nat}, j < ls.length → Up (ls.getD j []) := fun {j} hj => hup _ (mem_getD hj [])
    have w2 : IntKind.i64.wrap ((i : Int) + 2) = ((i + 2 : Nat) : Int) := by rw [w64_id (by omega) (by omega)]; omega
    have w1 : IntKind.i64.wrap ((i : Int) + 1) = ((i + 1 : Nat) : Int) := by rw [w64_id (by omega) (by omega)]; omega
    have z0 : (0 : Int) ≤ i := by omega
    have z1 : (0 : Int) ≤ ((i + 1 : Nat) : Int) := by omega
    by_cases hlt2 : i < ls.length
    · have d1 : (i : Int) < ls.length := by omega
      obtain ⟨g, u, rfl, gu, ou⟩ := ol.get hlt2
      obtain ⟨ua, uc, rfl⟩ := prs_form ou.sl
      by_cases hlt3 : i + 1 < ls.length
      · have d2 : ((i + 1 : Nat) : Int) < ls.length := by omega
        obtain ⟨g', u', hg', gu', ou'⟩ := ol.get hlt3
        cases hg'
        have hs2 : (ls.getD i []).length + (ls.getD (i + 1) []).length ≤ ps.length := by
          have h1 := sub_len ls (i + 2)
          rw [flat_take hlt3, flat_take hlt2, List.length_append, List.length_append] at h1
          omega
        simp only [go_sem, ↓reduceIte, Nat.reduceEqDiff, Nat.reduceLeDiff, Nat.reduceAdd, Nat.reduceMul, Nat.reduceSub, Nat.reduceBEq, Nat.reduceGT, Nat.reduceLT, Int.reduceLE, Int.reduceLT, Int.reduceNeg, reduceCtorEq, c17_L1, e3, e5, e6, d1, d2, z0, z1, w1, gu, gu', Int.toNat_natCast, Option.bind_some, ext_push, ext_refl]
        refine FunI.by (F46 _ u' _ _ H2 ou.sl ou'.sl (hup' hlt2) (hup' hlt3) (by omega)) ?_
        rintro u2 H3 ⟨⟨l, o3, up3, mem3, len3⟩, x3⟩
        obtain ⟨ua2, uc2, rfl⟩ := prs_form o3.sl
        simp only [go_sem, ↓reduceIte, Nat.reduceEqDiff, Nat.reduceLeDiff, Nat.reduceAdd, Nat.reduceMul, Nat.reduceSub, Nat.reduceBEq, Nat.reduceGT, Nat.reduceLT, Int.reduceLE, Int.reduceLT, Int.reduceNeg, reduceCtorEq, ext_push, ext_refl]
        refine ⟨x3, x3.trans ((Ext.push _).mono x3.size), ?_⟩
        refine RunI.by (append_all (on.ext x3) (o3.mono hx2.size) (Nat.le_trans hx1.size x3.size) (by omega) rfl) ?_
        rintro v3 H4 ⟨q1, q2⟩
        simp only [go_sem, ↓reduceIte, Nat.reduceEqDiff, Nat.reduceLeDiff, Nat.reduceAdd, Nat.reduceMul, Nat.reduceSub, Nat.reduceBEq, Nat.reduceGT, Nat.reduceLT, Int.reduceLE, Int.reduceLT, Int.reduceNeg, reduceCtorEq, e3, e6, w2]
        refine ⟨Hold.mk ⟨i + 2, ns ++ [l], v3, by simp only [go_sem, ↓reduceIte, Nat.reduceEqDiff, Nat.reduceLeDiff, Nat.reduceAdd, Nat.reduceMul, Nat.reduceSub, Nat.reduceBEq, Nat.reduceGT, Nat.reduceLT, Int.reduceLE, Int.reduceLT, Int.reduceNeg, reduceCtorEq, e3], by simp only [go_sem, ↓reduceIte, Nat.reduceEqDiff, Nat.reduceLeDiff, Nat.reduceAdd, Nat.reduceMul, Nat.reduceSub, Nat.reduceBEq, Nat.reduceGT, Nat.reduceLT, Int.reduceLE, Int.reduceLT, Int.reduceNeg, reduceCtorEq], by simp only [go_sem, ↓reduceIte, Nat.reduceEqDiff, Nat.reduceLeDiff, Nat.reduceAdd, Nat.reduceMul, Nat.reduceSub, Nat.reduceBEq, Nat.reduceGT, Nat.reduceLT, Int.reduceLE, Int.reduceLT, Int.reduceNeg, reduceCtorEq], by simp; omega, by omega, q1, ri.two hlt3 up3 mem3 len3, hx1.trans (x3.mono hx1.size |>.trans q2)⟩, by omega⟩
      · have d2 : ¬ ((i + 1 : Nat) : Int) < ls.length := by omega
        simp only [go_sem, ↓reduceIte, Nat.reduceEqDiff, Nat.reduceLeDiff, Nat.reduceAdd, Nat.reduceMul, Nat.reduceSub, Nat.reduceBEq, Nat.reduceGT, Nat.reduceLT, Int.reduceLE, Int.reduceLT, Int.reduceNeg, reduceCtorEq, c17_L1, e3, e5, e6, d1, d2, z0, z1, w1, gu, Int.toNat_natCast, Option.bind_some]
        refine RunI.by (append_all on ou hx1.size (by omega) rfl) ?_
        rintro v3 H4 ⟨q1, q2⟩
        simp only [go_sem, ↓reduceIte, Nat.reduceEqDiff, Nat.reduceLeDiff, Nat.reduceAdd, Nat.reduceMul, Nat.reduceSub, Nat.reduceBEq, Nat.reduceGT, Nat.reduceLT, Int.reduceLE, Int.reduceLT, Int.reduceNeg, reduceCtorEq, e3, e6, w2]
        have hr := ri.one hlt2 (hup' hlt2)
        have ht : ls.take (i + 2) = ls.take (i + 1) := by rw [List.take_of_length_le (by omega), List.take_of_length_le (by omega)]
        refine ⟨Hold.mk ⟨i + 2, ns ++ [ls.getD i []], v3, by simp only [go_sem, ↓reduceIte, Nat.reduceEqDiff, Nat.reduceLeDiff, Nat.reduceAdd, Nat.reduceMul, Nat.reduceSub, Nat.reduceBEq, Nat.reduceGT, Nat.reduceLT, Int.reduceLE, Int.reduceLT, Int.reduceNeg, reduceCtorEq, e3], by simp only [go_sem, ↓reduceIte, Nat.reduceEqDiff, Nat.reduceLeDiff, Nat.reduceAdd, Nat.reduceMul, Nat.reduceSub, Nat.reduceBEq, Nat.reduceGT, Nat.reduceLT, Int.reduceLE, Int.reduceLT, Int.reduceNeg, reduceCtorEq], by simp only [go_sem, ↓reduceIte, Nat.reduceEqDiff, Nat.reduceLeDiff, Nat.reduceAdd, Nat.reduceMul, Nat.reduceSub, Nat.reduceBEq, Nat.reduceGT, Nat.reduceLT, Int.reduceLE, Int.reduceLT, Int.reduceNeg, reduceCtorEq], by simp; omega, by omega, q1, ⟨hr.up, by rw [ht]; exact hr.mem, by rw [ht]; exact hr.len⟩, hx1.trans q2⟩, by omega⟩
    · have d1 : ¬ (i : Int) < ls.length := by omega
      have ht : ls.take i = ls := List.take_of_length_le (by omega)
      have rm := ri.mem
      have rl := ri.len
      rw [ht] at rm rl
      obtain ⟨a3, c3, rfl⟩ := on.form
      simp only [go_sem, ↓reduceIte, Nat.reduceEqDiff, Nat.reduceLeDiff, Nat.reduceAdd, Nat.reduceMul, Nat.reduceSub, Nat.reduceBEq, Nat.reduceGT, Nat.reduceLT, Int.reduceLE, Int.reduceLT, Int.reduceNeg, reduceCtorEq, c17_L1, e3, e5, e6, d1, e3']
      refine ⟨Hold.mk ⟨ns, _, by simp only [go_sem, ↓reduceIte, Nat.reduceEqDiff, Nat.reduceLeDiff, Nat.reduceAdd, Nat.reduceMul, Nat.reduceSub, Nat.reduceBEq, Nat.reduceGT, Nat.reduceLT, Int.reduceLE, Int.reduceLT, Int.reduceNeg, reduceCtorEq], on.mono (Nat.le_refl _) hx.size, ri.up, fun x => (rm x).trans (hmem x), by omega, by omega, hx2⟩, by omega⟩
  have c1' : ¬ (1 : Int) < ls.length := by omega
  by_cases h0 : ls.length = 0
  · have c0 : (ls.length : Int) = 0 := by omega
    simp only [go_sem, ↓reduceIte, Nat.reduceEqDiff, Nat.reduceLeDiff, Nat.reduceAdd, Nat.reduceMul, Nat.reduceSub, Nat.reduceBEq, Nat.reduceGT, Nat.reduceLT, Int.reduceLE, Int.reduceLT, Int.reduceNeg, reduceCtorEq, c17_L2, e3, c0]
    have hln : ls = [] := List.eq_nil_of_length_eq_zero h0
    subst hln
    have hpn : ps = [] := by
      cases ps with
      | nil => rfl
      | cons p ps => exact absurd ((hmem p).2 (by simp)) (by simp)
    subst hpn
    have he : sortP [] = [] := by simp [sortP, srt, dd]
    rw [he]
    exact ⟨Own.nil, hx⟩
  have c0 : ¬ (ls.length : Int) = 0 := by omega
  have c2 : (0 : Int) < ls.length := by omega
  obtain ⟨g, u, rfl, gu, ou⟩ := ho.get (i := 0) (by omega)
  simp only [go_sem, ↓reduceIte, Nat.reduceEqDiff, Nat.reduceLeDiff, Nat.reduceAdd, Nat.reduceMul, Nat.reduceSub, Nat.reduceBEq, Nat.reduceGT, Nat.reduceLT, Int.reduceLE, Int.reduceLT, Int.reduceNeg, reduceCtorEq, c17_L2, e3, c1', c0, c2, gu, show Int.toNat 0 = 0 from rfl]
  have hone : ls = [ls.getD 0 []] := by
    match ls, h0, hlt with
    | [l], _, _ => rfl
    | _ :: _ :: _, _, h => simp at h
  have hs : ls.getD 0 [] = sortP ps := sortP_of ⟨hup _ (mem_getD (by omega) []), fun x => by
    have := hmem x
    rw [hone] at this
    simpa using this⟩
  rw [← hs]
  exact ⟨ou, hx⟩
end Go.Proofs.Ytcgejfmbhpmjfaa
