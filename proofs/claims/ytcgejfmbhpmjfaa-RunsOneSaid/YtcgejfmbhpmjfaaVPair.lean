/- Arcs: slices of pairs of numbers, their order, and copies and comparisons of lists of arcs. -/
import Derived.Test.YtcgejfmbhpmjfaaVSeq
set_option linter.unusedSimpArgs false
set_option linter.unusedVariables false
set_option maxRecDepth 20000
namespace Go.Proofs.Ytcgejfmbhpmjfaa
open Go Go.V
-- 39: pith/pithlaw11.arc
-- 78: cmp.isNaN[int]
-- 68: cmp.Compare[int]
-- 67: cmp.Or[int]
-- 41: pith/runs.order
-- 12: pith/runs.Less
-- 13: pith/pithref11.Less
-- 18: pith/pithref.Pairs
-- 15: pith/pithref.SamePairs
-- 48: pith/runs.rise
-- 51: pith/pithref11.Rises
-- 3: int
-- 63: []int
-- 24: pith/api.Pair
-- 22: []api.Pair

abbrev Pr := Int × Int
def cp (ps : List Pr) : List Value := ps.flatMap fun p => [.int .i64 p.1, .int .i64 p.2]
theorem cp_len (ps : List Pr) : (cp ps).length = ps.length * 2 := by
  induction ps with
  | nil => rfl
  | cons p ps ih => simp only [cp, List.flatMap_cons, List.length_append, List.length_cons, List.length_nil] at *; omega
theorem cp_app (ps qs : List Pr) : cp (ps ++ qs) = cp ps ++ cp qs := by simp [cp]
theorem cp_get : ∀ {ps : List Pr} {i : Nat}, i < ps.length → (cp ps)[i * 2]? = some (.int .i64 (ps.getD i (0, 0)).1) ∧ (cp ps)[i * 2 + 1]? = some (.int .i64 (ps.getD i (0, 0)).2)
  | [], i, h => by simp at h
  | p :: ps, 0, _ => ⟨rfl, rfl⟩
  | p :: ps, i + 1, h => by
    have ih := cp_get (ps := ps) (i := i) (by simpa using h)
    have e : cp (p :: ps) = .int .i64 p.1 :: .int .i64 p.2 :: cp ps := rfl
    rw [e, show (i + 1) * 2 = i * 2 + 1 + 1 by omega, show i * 2 + 1 + 1 + 1 = (i * 2 + 1) + 1 + 1 by omega]
    simp only [List.getElem?_cons_succ, List.getD_cons_succ]
    exact ih
theorem cp_one : ∀ (ps : List Pr), ∀ u ∈ cp ps, u.oneCell' = true := by
  intro ps u hu
  obtain ⟨p, _, h⟩ := List.mem_flatMap.1 hu
  simp only [List.mem_cons, List.not_mem_nil, or_false] at h
  rcases h with rfl | rfl <;> rfl
/-- A slice of arcs. -/
def Prs (H : Heap) (v : Value) (ps : List Pr) : Prop := Sl H 24 2 v (cp ps)
section
variable {H H' : Heap} {v : Value} {ps : List Pr} {a : Option Addr} {len cap : Nat}
theorem prs_form (h : Prs H v ps) : ∃ a cap, v = .slice a ps.length cap := by
  obtain ⟨a, len, cap, rfl⟩ := Sl.form h
  have := Sl.length h
  rw [cp_len] at this
  exact ⟨a, cap, by rw [Nat.eq_of_mul_eq_mul_right (by omega) this]⟩
theorem prs_at (h : Prs H (.slice a len cap) ps) (hi : 0 < len) : ∃ b o, a = some ⟨b, o, none⟩ := Sl.at h hi
theorem prs_get {b o : Nat} (h : Prs H (.slice (some ⟨b, o, none⟩) len cap) ps) {i : Nat} (hi : i < ps.length) :
    hget H b (o + i * 2) = some (.int .i64 (ps.getD i (0, 0)).1) ∧ hget H b (o + i * 2 + 1) = some (.int .i64 (ps.getD i (0, 0)).2) := by
  have hl := Sl.length h
  rw [cp_len] at hl
  obtain ⟨h1, h2⟩ := cp_get hi
  refine ⟨?_, ?_⟩
  · rw [Sl.get h (by omega)]; exact h1
  · rw [Nat.add_assoc, Sl.get h (by omega)]; exact h2
theorem prs_ext (h : Prs H v ps) (hx : Ext H H') : Prs H' v ps := Sl.ext h hx
end
def pv (p : Pr) : Value := .agg #[.int .i64 p.1, .int .i64 p.2]

theorem hput_push2 {H : Heap} {z0 z1 a b : Value} {e : TypeId} : hput (H.push (.cells #[z0, z1] e)) H.size 0 [a, b] = H.push (.cells #[a, b] e) := hput_push rfl
theorem F39 (u v : Int) (H : Heap) : Fun Try.prog 39 #[.int .i64 u, .int .i64 v] H (fun r H' => r = .agg #[.int .i64 u, .int .i64 v] ∧ Ext H H') := by
  refine fun_of mixed (args := [_, _]) Try.func39 Try.ntmps39 b39 r39 rfl ?_
  simp only [go_sem, ↓reduceIte, Nat.reduceEqDiff, Nat.reduceLeDiff, Nat.reduceAdd, Nat.reduceMul, Nat.reduceSub, Nat.reduceBEq, Nat.reduceGT, Nat.reduceLT, Int.reduceLE, Int.reduceLT, Int.reduceNeg, reduceCtorEq]
  refine ⟨rfl, hcan_of push_new (by simp), ?_⟩
  simp only [loadV, ty24]
  refine ⟨_, hgets_put push_new (by simp) rfl, rfl, (Ext.push _).hput (Nat.le_refl _)⟩

theorem F78 (x : Int) (H : Heap) : Fun Try.prog 78 #[.int .i64 x] H (fun r H' => r = .bool false ∧ H = H') := by
  refine fun_of mixed (args := [_]) Try.func78 Try.ntmps78 b78 r78 rfl ?_
  simp only [go_sem, ↓reduceIte, Nat.reduceEqDiff, Nat.reduceLeDiff, Nat.reduceAdd, Nat.reduceMul, Nat.reduceSub, Nat.reduceBEq, Nat.reduceGT, Nat.reduceLT, Int.reduceLE, Int.reduceLT, Int.reduceNeg, reduceCtorEq, decide_true]
def cmpI (a b : Int) : Int := if a < b then -1 else if b < a then 1 else 0
theorem F68 (x y : Int) (H : Heap) : Fun Try.prog 68 #[.int .i64 x, .int .i64 y] H (fun r H' => r = .int .i64 (cmpI x y) ∧ H = H') := by
  refine fun_of mixed (args := [_, _]) Try.func68 Try.ntmps68 b68 r68 rfl ?_
  simp only [go_sem, ↓reduceIte, Nat.reduceEqDiff, Nat.reduceLeDiff, Nat.reduceAdd, Nat.reduceMul, Nat.reduceSub, Nat.reduceBEq, Nat.reduceGT, Nat.reduceLT, Int.reduceLE, Int.reduceLT, Int.reduceNeg, reduceCtorEq]
  refine FunI.by (F78 x H) ?_
  rintro _ _ ⟨rfl, rfl⟩
  simp only [go_sem, ↓reduceIte, Nat.reduceEqDiff, Nat.reduceLeDiff, Nat.reduceAdd, Nat.reduceMul, Nat.reduceSub, Nat.reduceBEq, Nat.reduceGT, Nat.reduceLT, Int.reduceLE, Int.reduceLT, Int.reduceNeg, reduceCtorEq]
  refine FunI.by (F78 y H) ?_
  rintro _ _ ⟨rfl, rfl⟩
  by_cases h1 : x < y
  · simp only [go_sem, ↓reduceIte, Nat.reduceEqDiff, Nat.reduceLeDiff, Nat.reduceAdd, Nat.reduceMul, Nat.reduceSub, Nat.reduceBEq, Nat.reduceGT, Nat.reduceLT, Int.reduceLE, Int.reduceLT, Int.reduceNeg, reduceCtorEq, h1, cmpI]
  · by_cases h2 : y < x
    · simp only [go_sem, ↓reduceIte, Nat.reduceEqDiff, Nat.reduceLeDiff, Nat.reduceAdd, Nat.reduceMul, Nat.reduceSub, Nat.reduceBEq, Nat.reduceGT, Nat.reduceLT, Int.reduceLE, Int.reduceLT, Int.reduceNeg, reduceCtorEq, h1, h2, cmpI]
    · simp only [go_sem, ↓reduceIte, Nat.reduceEqDiff, Nat.reduceLeDiff, Nat.reduceAdd, Nat.reduceMul, Nat.reduceSub, Nat.reduceBEq, Nat.reduceGT, Nat.reduceLT, Int.reduceLE, Int.reduceLT, Int.reduceNeg, reduceCtorEq, h1, h2, cmpI]
def orI : List Int → Int
  | [] => 0
  | x :: xs => if x = 0 then orI xs else x
theorem F67 (v : Value) (xs : List Int) (H : Heap) (hv : Ints H 3 .i64 v xs) (hl : xs.length ≤ 1000000000) : Fun Try.prog 67 #[v] H (fun r H' => r = .int .i64 (orI xs) ∧ H = H') := by
  obtain ⟨a, c, rfl⟩ := hv.form
  refine fun_of mixed (args := [_]) Try.func67 Try.ntmps67 b67 r67 rfl ?_
  simp only [go_sem, ↓reduceIte, Nat.reduceEqDiff, Nat.reduceLeDiff, Nat.reduceAdd, Nat.reduceMul, Nat.reduceSub, Nat.reduceBEq, Nat.reduceGT, Nat.reduceLT, Int.reduceLE, Int.reduceLT, Int.reduceNeg, reduceCtorEq]
  refine LoopI.by mixed (fun ρ H' => H = H' ∧ ∃ i : Nat, ρ 3 = .int .i64 0 ∧ ρ 6 = .slice a xs.length c ∧ ρ 7 = .int .i64 xs.length ∧ ρ 8 = .int .i64 i ∧ i ≤ xs.length ∧ orI xs = orI (xs.drop i)) (fun ρ _ => xs.length - (iof (ρ 8)).toNat) ?_ ?_
  · exact ⟨rfl, 0, by simp only [go_sem, ↓reduceIte, Nat.reduceEqDiff, Nat.reduceLeDiff, Nat.reduceAdd, Nat.reduceMul, Nat.reduceSub, Nat.reduceBEq, Nat.reduceGT, Nat.reduceLT, Int.reduceLE, Int.reduceLT, Int.reduceNeg, reduceCtorEq], by simp only [go_sem, ↓reduceIte, Nat.reduceEqDiff, Nat.reduceLeDiff, Nat.reduceAdd, Nat.reduceMul, Nat.reduceSub, Nat.reduceBEq, Nat.reduceGT, Nat.reduceLT, Int.reduceLE, Int.reduceLT, Int.reduceNeg, reduceCtorEq], by simp only [go_sem, ↓reduceIte, Nat.reduceEqDiff, Nat.reduceLeDiff, Nat.reduceAdd, Nat.reduceMul, Nat.reduceSub, Nat.reduceBEq, Nat.reduceGT, Nat.reduceLT, Int.reduceLE, Int.reduceLT, Int.reduceNeg, reduceCtorEq], by simp only [go_sem, ↓reduceIte, Nat.reduceEqDiff, Nat.reduceLeDiff, Nat.reduceAdd, Nat.reduceMul, Nat.reduceSub, Nat.reduceBEq, Nat.reduceGT, Nat.reduceLT, Int.reduceLE, Int.reduceLT, Int.reduceNeg, reduceCtorEq]; rfl, by omega, rfl⟩
  rintro ρ _ ⟨rfl, i, e3, e6, e7, e8, hi, ho⟩
  by_cases hlt : i < xs.length
  · have c1 : (i : Int) < xs.length := by omega
    have c0 : (0 : Int) ≤ i := by omega
    obtain ⟨b, o, rfl⟩ := hv.at hlt
    have gi := hv.get hlt
    have hd : xs.drop i = xs.getD i 0 :: xs.drop (i + 1) := by
      rw [List.drop_eq_getElem_cons hlt]
      simp [List.getD_eq_getElem?_getD, List.getElem?_eq_getElem hlt]
    rw [hd] at ho
    by_cases hz : xs.getD i 0 = 0
    · simp only [go_sem, ↓reduceIte, Nat.reduceEqDiff, Nat.reduceLeDiff, Nat.reduceAdd, Nat.reduceMul, Nat.reduceSub, Nat.reduceBEq, Nat.reduceGT, Nat.reduceLT, Int.reduceLE, Int.reduceLT, Int.reduceNeg, reduceCtorEq, c67_L0, e3, e6, e7, e8, c0, c1, gi, hz, w64_id (n := (i : Int) + 1) (by omega) (by omega)]
      rw [orI, if_pos hz] at ho
      exact ⟨Hold.mk ⟨rfl, i + 1, by simp only [go_sem, ↓reduceIte, Nat.reduceEqDiff, Nat.reduceLeDiff, Nat.reduceAdd, Nat.reduceMul, Nat.reduceSub, Nat.reduceBEq, Nat.reduceGT, Nat.reduceLT, Int.reduceLE, Int.reduceLT, Int.reduceNeg, reduceCtorEq, e3], by simp only [go_sem, ↓reduceIte, Nat.reduceEqDiff, Nat.reduceLeDiff, Nat.reduceAdd, Nat.reduceMul, Nat.reduceSub, Nat.reduceBEq, Nat.reduceGT, Nat.reduceLT, Int.reduceLE, Int.reduceLT, Int.reduceNeg, reduceCtorEq, e6], by simp only [go_sem, ↓reduceIte, Nat.reduceEqDiff, Nat.reduceLeDiff, Nat.reduceAdd, Nat.reduceMul, Nat.reduceSub, Nat.reduceBEq, Nat.reduceGT, Nat.reduceLT, Int.reduceLE, Int.reduceLT, Int.reduceNeg, reduceCtorEq, e7], by simp only [go_sem, ↓reduceIte, Nat.reduceEqDiff, Nat.reduceLeDiff, Nat.reduceAdd, Nat.reduceMul, Nat.reduceSub, Nat.reduceBEq, Nat.reduceGT, Nat.reduceLT, Int.reduceLE, Int.reduceLT, Int.reduceNeg, reduceCtorEq]; rfl, by omega, ho⟩, by omega⟩
    · simp only [go_sem, ↓reduceIte, Nat.reduceEqDiff, Nat.reduceLeDiff, Nat.reduceAdd, Nat.reduceMul, Nat.reduceSub, Nat.reduceBEq, Nat.reduceGT, Nat.reduceLT, Int.reduceLE, Int.reduceLT, Int.reduceNeg, reduceCtorEq, c67_L0, e3, e6, e7, e8, c0, c1, gi, hz]
      rw [orI, if_neg hz] at ho
      rw [ho]
  · have c1 : ¬ (i : Int) < xs.length := by omega
    simp only [go_sem, ↓reduceIte, Nat.reduceEqDiff, Nat.reduceLeDiff, Nat.reduceAdd, Nat.reduceMul, Nat.reduceSub, Nat.reduceBEq, Nat.reduceGT, Nat.reduceLT, Int.reduceLE, Int.reduceLT, Int.reduceNeg, reduceCtorEq, c67_L0, e3, e6, e7, e8, c1]
    rw [ho, List.drop_of_length_le (by omega)]
    rfl
def ordI (p q : Pr) : Int := orI [cmpI p.1 q.1, cmpI p.2 q.2]
/-- p stands ahead of q. -/
def ltP (p q : Pr) : Bool := decide (p.1 < q.1 ∨ p.1 = q.1 ∧ p.2 < q.2)
theorem ord_lt (p q : Pr) : decide (ordI p q < 0) = ltP p q := by
  unfold ordI ltP
  rw [decide_eq_decide]
  simp only [orI, cmpI]
  by_cases h1 : p.1 < q.1
  · simp [h1]
  · by_cases h2 : q.1 < p.1
    · simp [h1, h2]; omega
    · have h3 : p.1 = q.1 := by omega
      by_cases h4 : p.2 < q.2
      · simp [h1, h2, h3, h4]
      · by_cases h5 : q.2 < p.2
        · simp [h1, h2, h3, h4, h5]
        · simp [h1, h2, h3, h4, h5]
set_option maxHeartbeats 800000 in
theorem F41 (p q : Pr) (H : Heap) : Fun Try.prog 41 #[pv p, pv q] H (fun r H' => r = .int .i64 (ordI p q) ∧ Ext H H') := by
  refine fun_of mixed (args := [_, _]) Try.func41 Try.ntmps41 b41 r41 rfl ?_
  simp only [go_sem, ↓reduceIte, Nat.reduceEqDiff, Nat.reduceLeDiff, Nat.reduceAdd, Nat.reduceMul, Nat.reduceSub, Nat.reduceBEq, Nat.reduceGT, Nat.reduceLT, Int.reduceLE, Int.reduceLT, Int.reduceNeg, reduceCtorEq, pv]
  have hx1 : Ext H ((H.push (.cells #[.int .i64 p.1, .int .i64 p.2] 24)).push (.cells #[.int .i64 q.1, .int .i64 q.2] 24)) := (Ext.push _).trans ((Ext.push _).mono (by simp))
  refine FunI.by (F68 p.1 q.1 _) ?_
  rintro _ _ ⟨rfl, rfl⟩
  simp only [go_sem, ↓reduceIte, Nat.reduceEqDiff, Nat.reduceLeDiff, Nat.reduceAdd, Nat.reduceMul, Nat.reduceSub, Nat.reduceBEq, Nat.reduceGT, Nat.reduceLT, Int.reduceLE, Int.reduceLT, Int.reduceNeg, reduceCtorEq, ext_push, ext_refl]
  refine FunI.by (F68 p.2 q.2 _) ?_
  rintro _ _ ⟨rfl, rfl⟩
  simp only [go_sem, ↓reduceIte, Nat.reduceEqDiff, Nat.reduceLeDiff, Nat.reduceAdd, Nat.reduceMul, Nat.reduceSub, Nat.reduceBEq, Nat.reduceGT, Nat.reduceLT, Int.reduceLE, Int.reduceLT, Int.reduceNeg, reduceCtorEq, ext_push, ext_refl]
  refine FunI.by (F67 _ [cmpI p.1 q.1, cmpI p.2 q.2] _ (Sl.new (sz := 1) (n := 2) rfl) (by simp)) ?_
  rintro _ _ ⟨rfl, rfl⟩
  simp only [go_sem, ↓reduceIte, Nat.reduceEqDiff, Nat.reduceLeDiff, Nat.reduceAdd, Nat.reduceMul, Nat.reduceSub, Nat.reduceBEq, Nat.reduceGT, Nat.reduceLT, Int.reduceLE, Int.reduceLT, Int.reduceNeg, reduceCtorEq, ext_push, ext_refl]
  exact ⟨rfl, hx1.trans ((Ext.push _).mono hx1.size)⟩
theorem F12 (p q : Pr) (H : Heap) : Fun Try.prog 12 #[pv p, pv q] H (fun r H' => r = .bool (ltP p q) ∧ Ext H H') := by
  refine fun_of mixed (args := [_, _]) Try.func12 Try.ntmps12 b12 r12 rfl ?_
  have hx1 : Ext H ((H.push (.cells #[.int .i64 p.1, .int .i64 p.2] 24)).push (.cells #[.int .i64 q.1, .int .i64 q.2] 24)) := (Ext.push _).trans ((Ext.push _).mono (by simp))
  simp only [go_sem, ↓reduceIte, Nat.reduceEqDiff, Nat.reduceLeDiff, Nat.reduceAdd, Nat.reduceMul, Nat.reduceSub, Nat.reduceBEq, Nat.reduceGT, Nat.reduceLT, Int.reduceLE, Int.reduceLT, Int.reduceNeg, reduceCtorEq, pv]
  refine FunI.by (F41 p q _) ?_
  rintro _ H1 ⟨rfl, hx⟩
  simp only [go_sem, ↓reduceIte, Nat.reduceEqDiff, Nat.reduceLeDiff, Nat.reduceAdd, Nat.reduceMul, Nat.reduceSub, Nat.reduceBEq, Nat.reduceGT, Nat.reduceLT, Int.reduceLE, Int.reduceLT, Int.reduceNeg, reduceCtorEq, ord_lt]
  exact hx1.trans (hx.mono hx1.size)
theorem F13 (p q : Pr) (H : Heap) : Fun Try.prog 13 #[pv p, pv q] H (fun r H' => r = .bool (ltP p q) ∧ Ext H H') := by
  refine fun_of mixed (args := [_, _]) Try.func13 Try.ntmps13 b13 r13 rfl ?_
  have hx1 : Ext H ((H.push (.cells #[.int .i64 p.1, .int .i64 p.2] 24)).push (.cells #[.int .i64 q.1, .int .i64 q.2] 24)) := (Ext.push _).trans ((Ext.push _).mono (by simp))
  by_cases h1 : p.1 < q.1
  · simp only [go_sem, ↓reduceIte, Nat.reduceEqDiff, Nat.reduceLeDiff, Nat.reduceAdd, Nat.reduceMul, Nat.reduceSub, Nat.reduceBEq, Nat.reduceGT, Nat.reduceLT, Int.reduceLE, Int.reduceLT, Int.reduceNeg, reduceCtorEq, pv, h1, ltP]
    simp [h1, hx1]
  · by_cases h2 : p.1 = q.1
    · rw [h2] at hx1
      simp only [go_sem, ↓reduceIte, Nat.reduceEqDiff, Nat.reduceLeDiff, Nat.reduceAdd, Nat.reduceMul, Nat.reduceSub, Nat.reduceBEq, Nat.reduceGT, Nat.reduceLT, Int.reduceLE, Int.reduceLT, Int.reduceNeg, reduceCtorEq, pv, h1, h2, ltP]
      simp [h1, h2, hx1]
    · simp only [go_sem, ↓reduceIte, Nat.reduceEqDiff, Nat.reduceLeDiff, Nat.reduceAdd, Nat.reduceMul, Nat.reduceSub, Nat.reduceBEq, Nat.reduceGT, Nat.reduceLT, Int.reduceLE, Int.reduceLT, Int.reduceNeg, reduceCtorEq, pv, h1, h2, ltP]
      simp [h1, h2, hx1]

theorem F18 (v : Value) (ps : List Pr) (H : Heap) (hv : Prs H v ps) (hl : ps.length ≤ 8796093020000) :
    Fun Try.prog 18 #[v] H (fun v' H' => Own H' H.size 24 2 v' (cp ps) ∧ Ext H H') := by
  obtain ⟨a, c, rfl⟩ := prs_form hv
  refine fun_of mixed (args := [_]) Try.func18 Try.ntmps18 b18 r18 rfl ?_
  simp only [go_sem, ↓reduceIte, Nat.reduceEqDiff, Nat.reduceLeDiff, Nat.reduceAdd, Nat.reduceMul, Nat.reduceSub, Nat.reduceBEq, Nat.reduceGT, Nat.reduceLT, Int.reduceLE, Int.reduceLT, Int.reduceNeg, reduceCtorEq]
  refine ⟨by omega, by omega, by omega, ?_⟩
  refine LoopI.by mixed (fun ρ H' => ∃ (i : Nat) (v' : Value), ρ 0 = .slice a ps.length c ∧ ρ 3 = v' ∧ ρ 4 = .int .i64 i ∧ i ≤ ps.length ∧ Own H' H.size 24 2 v' (cp (ps.take i)) ∧ Ext H H') (fun ρ _ => ps.length - (iof (ρ 4)).toNat) ?_ ?_
  · refine ⟨0, _, by simp only [go_sem, ↓reduceIte, Nat.reduceEqDiff, Nat.reduceLeDiff, Nat.reduceAdd, Nat.reduceMul, Nat.reduceSub, Nat.reduceBEq, Nat.reduceGT, Nat.reduceLT, Int.reduceLE, Int.reduceLT, Int.reduceNeg, reduceCtorEq], rfl, by simp only [go_sem, ↓reduceIte, Nat.reduceEqDiff, Nat.reduceLeDiff, Nat.reduceAdd, Nat.reduceMul, Nat.reduceSub, Nat.reduceBEq, Nat.reduceGT, Nat.reduceLT, Int.reduceLE, Int.reduceLT, Int.reduceNeg, reduceCtorEq]; rfl, by omega, ?_, Ext.push _⟩
    have := Own.made (H := H) (B := H.size) (e := 24) (sz := 2) (l := 0) (c := ps.length) (z := .agg #[.int .i64 0, .int .i64 0]) (Nat.le_refl _) (by omega) (by omega)
    rw [Nat.zero_mul, List.take_zero] at this
    simp only [go_sem, ↓reduceIte, Nat.reduceEqDiff, Nat.reduceLeDiff, Nat.reduceAdd, Nat.reduceMul, Nat.reduceSub, Nat.reduceBEq, Nat.reduceGT, Nat.reduceLT, Int.reduceLE, Int.reduceLT, Int.reduceNeg, reduceCtorEq]
    exact this
  rintro ρ H' ⟨i, v', e0, e3, e4, hi, ho, hx⟩
  by_cases hlt : i < ps.length
  · obtain ⟨b, o, rfl⟩ := prs_at hv (by omega)
    obtain ⟨g1, g2⟩ := prs_get (prs_ext hv hx) hlt
    have c1 : (i : Int) < ps.length := by omega
    have c0 : (0 : Int) ≤ i := by omega
    simp only [go_sem, ↓reduceIte, Nat.reduceEqDiff, Nat.reduceLeDiff, Nat.reduceAdd, Nat.reduceMul, Nat.reduceSub, Nat.reduceBEq, Nat.reduceGT, Nat.reduceLT, Int.reduceLE, Int.reduceLT, Int.reduceNeg, reduceCtorEq, c18_L0, e0, e3, e4, c0, c1, g1, g2, Int.toNat_natCast, Option.bind_some]
    refine RunI.by (append_lit ty22 ty24 rfl (by decide) ho (ys := [.int .i64 (ps.getD i (0, 0)).1, .int .i64 (ps.getD i (0, 0)).2]) (m := 1) rfl rfl (n := i + 1) (by rw [cp_len]; simp; omega) (by omega) (by omega) hx.size) ?_
    rintro v2 H2 ⟨h1, h2, _⟩
    simp only [go_sem, ↓reduceIte, Nat.reduceEqDiff, Nat.reduceLeDiff, Nat.reduceAdd, Nat.reduceMul, Nat.reduceSub, Nat.reduceBEq, Nat.reduceGT, Nat.reduceLT, Int.reduceLE, Int.reduceLT, Int.reduceNeg, reduceCtorEq, e4]
    rw [w64_id (by omega) (by omega)]
    refine ⟨Hold.mk ⟨i + 1, v2, by simp only [go_sem, ↓reduceIte, Nat.reduceEqDiff, Nat.reduceLeDiff, Nat.reduceAdd, Nat.reduceMul, Nat.reduceSub, Nat.reduceBEq, Nat.reduceGT, Nat.reduceLT, Int.reduceLE, Int.reduceLT, Int.reduceNeg, reduceCtorEq, e0], by simp only [go_sem, ↓reduceIte, Nat.reduceEqDiff, Nat.reduceLeDiff, Nat.reduceAdd, Nat.reduceMul, Nat.reduceSub, Nat.reduceBEq, Nat.reduceGT, Nat.reduceLT, Int.reduceLE, Int.reduceLT, Int.reduceNeg, reduceCtorEq], by simp only [go_sem, ↓reduceIte, Nat.reduceEqDiff, Nat.reduceLeDiff, Nat.reduceAdd, Nat.reduceMul, Nat.reduceSub, Nat.reduceBEq, Nat.reduceGT, Nat.reduceLT, Int.reduceLE, Int.reduceLT, Int.reduceNeg, reduceCtorEq]; rfl, by omega, ?_, hx.trans (h2.upto ho hx.size)⟩, by omega⟩
    rw [take_succ_getD hlt (0, 0), cp_app]
    exact h1
  · have c1 : ¬ (i : Int) < ps.length := by omega
    simp only [go_sem, ↓reduceIte, Nat.reduceEqDiff, Nat.reduceLeDiff, Nat.reduceAdd, Nat.reduceMul, Nat.reduceSub, Nat.reduceBEq, Nat.reduceGT, Nat.reduceLT, Int.reduceLE, Int.reduceLT, Int.reduceNeg, reduceCtorEq, c18_L0, e0, e3, e4, c1]
    have : i = ps.length := by omega
    subst this
    rw [List.take_of_length_le (Nat.le_refl _)] at ho
    exact ⟨ho, hx⟩

theorem pr_eq {p q : Pr} : p = q ↔ p.1 = q.1 ∧ p.2 = q.2 := by
  constructor
  · rintro rfl; exact ⟨rfl, rfl⟩
  · rintro ⟨h1, h2⟩; exact Prod.ext h1 h2
set_option maxHeartbeats 800000 in
theorem F15 (v u : Value) (ps qs : List Pr) (H : Heap) (hv : Prs H v ps) (hu : Prs H u qs) (hl : ps.length ≤ 8796093020000) :
    Fun Try.prog 15 #[v, u] H (fun r H' => r = .bool (decide (ps = qs)) ∧ H = H') := by
  obtain ⟨a, c, rfl⟩ := prs_form hv
  obtain ⟨a', c', rfl⟩ := prs_form hu
  refine fun_of mixed (args := [_, _]) Try.func15 Try.ntmps15 b15 r15 rfl ?_
  by_cases hlen : ps.length = qs.length
  · have c0 : (ps.length : Int) = qs.length := by omega
    simp only [go_sem, ↓reduceIte, Nat.reduceEqDiff, Nat.reduceLeDiff, Nat.reduceAdd, Nat.reduceMul, Nat.reduceSub, Nat.reduceBEq, Nat.reduceGT, Nat.reduceLT, Int.reduceLE, Int.reduceLT, Int.reduceNeg, reduceCtorEq, c0]
    refine LoopI.by mixed (fun ρ H' => H = H' ∧ ∃ i : Nat, ρ 0 = .slice a ps.length c ∧ ρ 1 = .slice a' qs.length c' ∧ ρ 5 = .int .i64 i ∧ i ≤ ps.length ∧ ps.take i = qs.take i) (fun ρ _ => ps.length - (iof (ρ 5)).toNat) ?_ ?_
    · exact ⟨rfl, 0, by simp only [go_sem, ↓reduceIte, Nat.reduceEqDiff, Nat.reduceLeDiff, Nat.reduceAdd, Nat.reduceMul, Nat.reduceSub, Nat.reduceBEq, Nat.reduceGT, Nat.reduceLT, Int.reduceLE, Int.reduceLT, Int.reduceNeg, reduceCtorEq], by simp only [go_sem, ↓reduceIte, Nat.reduceEqDiff, Nat.reduceLeDiff, Nat.reduceAdd, Nat.reduceMul, Nat.reduceSub, Nat.reduceBEq, Nat.reduceGT, Nat.reduceLT, Int.reduceLE, Int.reduceLT, Int.reduceNeg, reduceCtorEq], by simp only [go_sem, ↓reduceIte, Nat.reduceEqDiff, Nat.reduceLeDiff, Nat.reduceAdd, Nat.reduceMul, Nat.reduceSub, Nat.reduceBEq, Nat.reduceGT, Nat.reduceLT, Int.reduceLE, Int.reduceLT, Int.reduceNeg, reduceCtorEq]; rfl, by omega, rfl⟩
    rintro ρ _ ⟨rfl, i, e0, e1, e5, hi, ht⟩
    by_cases hlt : i < ps.length
    · have hlt' : i < qs.length := by omega
      obtain ⟨b, o, rfl⟩ := prs_at hv (by omega)
      obtain ⟨b', o', rfl⟩ := prs_at hu (by omega)
      obtain ⟨g1, g2⟩ := prs_get hv hlt
      obtain ⟨g3, g4⟩ := prs_get hu hlt'
      have c1 : (i : Int) < ps.length := by omega
      have c2 : (i : Int) < qs.length := by omega
      have z0 : (0 : Int) ≤ i := by omega
      have ts := take_succ_eq hlt hlt' (0, 0) ht
      by_cases q1 : (ps.getD i (0, 0)).1 = (qs.getD i (0, 0)).1
      · by_cases q2 : (ps.getD i (0, 0)).2 = (qs.getD i (0, 0)).2
        · simp only [go_sem, ↓reduceIte, Nat.reduceEqDiff, Nat.reduceLeDiff, Nat.reduceAdd, Nat.reduceMul, Nat.reduceSub, Nat.reduceBEq, Nat.reduceGT, Nat.reduceLT, Int.reduceLE, Int.reduceLT, Int.reduceNeg, reduceCtorEq, c15_L0, e0, e1, e5, c1, c2, z0, g1, g2, g3, g4, q1, q2, Int.toNat_natCast, w64_id (n := (i : Int) + 1) (by omega) (by omega), decide_true]
          exact ⟨Hold.mk ⟨rfl, i + 1, by simp only [go_sem, ↓reduceIte, Nat.reduceEqDiff, Nat.reduceLeDiff, Nat.reduceAdd, Nat.reduceMul, Nat.reduceSub, Nat.reduceBEq, Nat.reduceGT, Nat.reduceLT, Int.reduceLE, Int.reduceLT, Int.reduceNeg, reduceCtorEq, e0], by simp only [go_sem, ↓reduceIte, Nat.reduceEqDiff, Nat.reduceLeDiff, Nat.reduceAdd, Nat.reduceMul, Nat.reduceSub, Nat.reduceBEq, Nat.reduceGT, Nat.reduceLT, Int.reduceLE, Int.reduceLT, Int.reduceNeg, reduceCtorEq, e1], by simp only [go_sem, ↓reduceIte, Nat.reduceEqDiff, Nat.reduceLeDiff, Nat.reduceAdd, Nat.reduceMul, Nat.reduceSub, Nat.reduceBEq, Nat.reduceGT, Nat.reduceLT, Int.reduceLE, Int.reduceLT, Int.reduceNeg, reduceCtorEq]; rfl, by omega, ts.2 (Prod.ext q1 q2)⟩, by omega⟩
        · have hne : ¬ ps = qs := fun h => q2 (by rw [h])
          simp only [go_sem, ↓reduceIte, Nat.reduceEqDiff, Nat.reduceLeDiff, Nat.reduceAdd, Nat.reduceMul, Nat.reduceSub, Nat.reduceBEq, Nat.reduceGT, Nat.reduceLT, Int.reduceLE, Int.reduceLT, Int.reduceNeg, reduceCtorEq, c15_L0, e0, e1, e5, c1, c2, z0, g1, g2, g3, g4, q1, q2, Int.toNat_natCast, decide_true, hne, decide_false]
      · have hne : ¬ ps = qs := fun h => q1 (by rw [h])
        simp only [go_sem, ↓reduceIte, Nat.reduceEqDiff, Nat.reduceLeDiff, Nat.reduceAdd, Nat.reduceMul, Nat.reduceSub, Nat.reduceBEq, Nat.reduceGT, Nat.reduceLT, Int.reduceLE, Int.reduceLT, Int.reduceNeg, reduceCtorEq, c15_L0, e0, e1, e5, c1, c2, z0, g1, g2, g3, g4, q1, Int.toNat_natCast, decide_true, hne, decide_false]
    · have c1 : ¬ (i : Int) < ps.length := by omega
      have hi' : i = ps.length := by omega
      subst hi'
      rw [List.take_of_length_le (Nat.le_refl _), hlen, List.take_of_length_le (Nat.le_refl _)] at ht
      simp only [go_sem, ↓reduceIte, Nat.reduceEqDiff, Nat.reduceLeDiff, Nat.reduceAdd, Nat.reduceMul, Nat.reduceSub, Nat.reduceBEq, Nat.reduceGT, Nat.reduceLT, Int.reduceLE, Int.reduceLT, Int.reduceNeg, reduceCtorEq, c15_L0, e0, e1, e5, c1]
      simp [ht]
  · have c0 : ¬ (ps.length : Int) = qs.length := by omega
    have hne : ¬ ps = qs := fun h => hlen (by rw [h])
    simp only [go_sem, ↓reduceIte, Nat.reduceEqDiff, Nat.reduceLeDiff, Nat.reduceAdd, Nat.reduceMul, Nat.reduceSub, Nat.reduceBEq, Nat.reduceGT, Nat.reduceLT, Int.reduceLE, Int.reduceLT, Int.reduceNeg, reduceCtorEq, c0, hne, decide_false]

/-- Do arcs rise? -/
def riseP (ps : List Pr) : Bool := (List.range (ps.length - 1)).all fun i => ltP (ps.getD i (0, 0)) (ps.getD (i + 1) (0, 0))
theorem riseP_no {ps : List Pr} {i : Nat} (h : i + 1 < ps.length) (hn : ltP (ps.getD i (0, 0)) (ps.getD (i + 1) (0, 0)) = false) : riseP ps = false := by
  unfold riseP
  rw [List.all_eq_false]
  exact ⟨i, List.mem_range.2 (by omega), by rw [hn]; simp⟩
theorem riseP_yes {ps : List Pr} (h : ∀ i, i + 1 < ps.length → ltP (ps.getD i (0, 0)) (ps.getD (i + 1) (0, 0)) = true) : riseP ps = true := by
  unfold riseP
  rw [List.all_eq_true]
  intro i hi
  exact h i (by have := List.mem_range.1 hi; omega)
theorem riseP_get {ps : List Pr} (h : riseP ps = true) {i : Nat} (hi : i + 1 < ps.length) : ltP (ps.getD i (0, 0)) (ps.getD (i + 1) (0, 0)) = true := by
  unfold riseP at h
  rw [List.all_eq_true] at h
  exact h i (List.mem_range.2 (by omega))
set_option maxHeartbeats 800000 in
theorem F48 (v : Value) (ps : List Pr) (H : Heap) (hv : Prs H v ps) (hl : ps.length ≤ 140737488350000) :
    Fun Try.prog 48 #[v] H (fun r H' => r = .bool (riseP ps) ∧ Ext H H') := by
  obtain ⟨a, c, rfl⟩ := prs_form hv
  refine fun_of mixed (args := [_]) Try.func48 Try.ntmps48 b48 r48 rfl ?_
  simp only [go_sem, ↓reduceIte, Nat.reduceEqDiff, Nat.reduceLeDiff, Nat.reduceAdd, Nat.reduceMul, Nat.reduceSub, Nat.reduceBEq, Nat.reduceGT, Nat.reduceLT, Int.reduceLE, Int.reduceLT, Int.reduceNeg, reduceCtorEq]
  refine LoopI.by mixed (fun ρ H' => ∃ i : Nat, ρ 0 = .slice a ps.length c ∧ ρ 3 = .int .i64 ((i + 1 : Nat) : Int) ∧ i ≤ ps.length ∧ (∀ j, j < i → j + 1 < ps.length → ltP (ps.getD j (0, 0)) (ps.getD (j + 1) (0, 0)) = true) ∧ Ext H H') (fun ρ _ => ps.length + 1 - (iof (ρ 3)).toNat) ?_ ?_
  · exact ⟨0, by simp only [go_sem, ↓reduceIte, Nat.reduceEqDiff, Nat.reduceLeDiff, Nat.reduceAdd, Nat.reduceMul, Nat.reduceSub, Nat.reduceBEq, Nat.reduceGT, Nat.reduceLT, Int.reduceLE, Int.reduceLT, Int.reduceNeg, reduceCtorEq], by simp only [go_sem, ↓reduceIte, Nat.reduceEqDiff, Nat.reduceLeDiff, Nat.reduceAdd, Nat.reduceMul, Nat.reduceSub, Nat.reduceBEq, Nat.reduceGT, Nat.reduceLT, Int.reduceLE, Int.reduceLT, Int.reduceNeg, reduceCtorEq]; rfl, by omega, by omega, Upto.refl _ _⟩
  rintro ρ H1 ⟨i, e0, e3, hi, hj, hx⟩
  have w1 : IntKind.i64.wrap (((i + 1 : Nat) : Int) - 1) = (i : Int) := by rw [w64_id (by omega) (by omega)]; omega
  have w2 : IntKind.i64.wrap (((i + 1 : Nat) : Int) + 1) = ((i + 1 + 1 : Nat) : Int) := by rw [w64_id (by omega) (by omega)]; omega
  by_cases hlt : i + 1 < ps.length
  · have c1 : ((i + 1 : Nat) : Int) < ps.length := by omega
    have c2 : (i : Int) < ps.length := by omega
    have z0 : (0 : Int) ≤ i := by omega
    have z1 : (0 : Int) ≤ ((i + 1 : Nat) : Int) := by omega
    obtain ⟨b, o, rfl⟩ := prs_at hv (by omega)
    obtain ⟨g1, g2⟩ := prs_get (prs_ext hv hx) (i := i) (by omega)
    obtain ⟨g3, g4⟩ := prs_get (prs_ext hv hx) hlt
    simp only [go_sem, ↓reduceIte, Nat.reduceEqDiff, Nat.reduceLeDiff, Nat.reduceAdd, Nat.reduceMul, Nat.reduceSub, Nat.reduceBEq, Nat.reduceGT, Nat.reduceLT, Int.reduceLE, Int.reduceLT, Int.reduceNeg, reduceCtorEq, c48_L0, e0, e3, w1, w2, c1, c2, z0, z1, g1, g2, g3, g4, Int.toNat_natCast, Option.bind_some, ext_push, ext_refl]
    refine FunI.by (F12 (ps.getD i (0, 0)) (ps.getD (i + 1) (0, 0)) H1) ?_
    rintro _ H2 ⟨rfl, hx2⟩
    have hxa := hx.trans (hx2.mono hx.size)
    cases hlt2 : ltP (ps.getD i (0, 0)) (ps.getD (i + 1) (0, 0)) with
    | true =>
      simp only [go_sem, ↓reduceIte, Nat.reduceEqDiff, Nat.reduceLeDiff, Nat.reduceAdd, Nat.reduceMul, Nat.reduceSub, Nat.reduceBEq, Nat.reduceGT, Nat.reduceLT, Int.reduceLE, Int.reduceLT, Int.reduceNeg, reduceCtorEq, e0, e3, w2]
      refine ⟨Hold.mk ⟨i + 1, by simp only [go_sem, ↓reduceIte, Nat.reduceEqDiff, Nat.reduceLeDiff, Nat.reduceAdd, Nat.reduceMul, Nat.reduceSub, Nat.reduceBEq, Nat.reduceGT, Nat.reduceLT, Int.reduceLE, Int.reduceLT, Int.reduceNeg, reduceCtorEq, e0], by simp only [go_sem, ↓reduceIte, Nat.reduceEqDiff, Nat.reduceLeDiff, Nat.reduceAdd, Nat.reduceMul, Nat.reduceSub, Nat.reduceBEq, Nat.reduceGT, Nat.reduceLT, Int.reduceLE, Int.reduceLT, Int.reduceNeg, reduceCtorEq], by omega, fun j hj1 hj2 => ?_, hxa⟩, by omega⟩
      by_cases hji : j = i
      · subst hji; exact hlt2
      · exact hj j (by omega) hj2
    | false =>
      simp only [go_sem, ↓reduceIte, Nat.reduceEqDiff, Nat.reduceLeDiff, Nat.reduceAdd, Nat.reduceMul, Nat.reduceSub, Nat.reduceBEq, Nat.reduceGT, Nat.reduceLT, Int.reduceLE, Int.reduceLT, Int.reduceNeg, reduceCtorEq]
      rw [riseP_no hlt hlt2]
      exact ⟨rfl, hxa⟩
  · have c1 : ¬ ((i + 1 : Nat) : Int) < ps.length := by omega
    simp only [go_sem, ↓reduceIte, Nat.reduceEqDiff, Nat.reduceLeDiff, Nat.reduceAdd, Nat.reduceMul, Nat.reduceSub, Nat.reduceBEq, Nat.reduceGT, Nat.reduceLT, Int.reduceLE, Int.reduceLT, Int.reduceNeg, reduceCtorEq, c48_L0, e0, e3, c1]
    rw [riseP_yes fun j hj1 => hj j (by omega) hj1]
    exact ⟨rfl, hx⟩
set_option maxHeartbeats 800000 in
theorem F51 (v : Value) (ps : List Pr) (H : Heap) (hv : Prs H v ps) (hl : ps.length ≤ 140737488350000) :
    Fun Try.prog 51 #[v] H (fun r H' => r = .bool (riseP ps) ∧ Ext H H') := by
  obtain ⟨a, c, rfl⟩ := prs_form hv
  refine fun_of mixed (args := [_]) Try.func51 Try.ntmps51 b51 r51 rfl ?_
  simp only [go_sem, ↓reduceIte, Nat.reduceEqDiff, Nat.reduceLeDiff, Nat.reduceAdd, Nat.reduceMul, Nat.reduceSub, Nat.reduceBEq, Nat.reduceGT, Nat.reduceLT, Int.reduceLE, Int.reduceLT, Int.reduceNeg, reduceCtorEq]
  refine LoopI.by mixed (fun ρ H' => ∃ i : Nat, ρ 0 = .slice a ps.length c ∧ ρ 3 = .int .i64 ((i + 1 : Nat) : Int) ∧ i ≤ ps.length ∧ (∀ j, j < i → j + 1 < ps.length → ltP (ps.getD j (0, 0)) (ps.getD (j + 1) (0, 0)) = true) ∧ Ext H H') (fun ρ _ => ps.length + 1 - (iof (ρ 3)).toNat) ?_ ?_
  · exact ⟨0, by simp only [go_sem, ↓reduceIte, Nat.reduceEqDiff, Nat.reduceLeDiff, Nat.reduceAdd, Nat.reduceMul, Nat.reduceSub, Nat.reduceBEq, Nat.reduceGT, Nat.reduceLT, Int.reduceLE, Int.reduceLT, Int.reduceNeg, reduceCtorEq], by simp only [go_sem, ↓reduceIte, Nat.reduceEqDiff, Nat.reduceLeDiff, Nat.reduceAdd, Nat.reduceMul, Nat.reduceSub, Nat.reduceBEq, Nat.reduceGT, Nat.reduceLT, Int.reduceLE, Int.reduceLT, Int.reduceNeg, reduceCtorEq]; rfl, by omega, by omega, Upto.refl _ _⟩
  rintro ρ H1 ⟨i, e0, e3, hi, hj, hx⟩
  have w1 : IntKind.i64.wrap (((i + 1 : Nat) : Int) - 1) = (i : Int) := by rw [w64_id (by omega) (by omega)]; omega
  have w2 : IntKind.i64.wrap (((i + 1 : Nat) : Int) + 1) = ((i + 1 + 1 : Nat) : Int) := by rw [w64_id (by omega) (by omega)]; omega
  by_cases hlt : i + 1 < ps.length
  · have c1 : ((i + 1 : Nat) : Int) < ps.length := by omega
    have c2 : (i : Int) < ps.length := by omega
    have z0 : (0 : Int) ≤ i := by omega
    have z1 : (0 : Int) ≤ ((i + 1 : Nat) : Int) := by omega
    obtain ⟨b, o, rfl⟩ := prs_at hv (by omega)
    obtain ⟨g1, g2⟩ := prs_get (prs_ext hv hx) (i := i) (by omega)
    obtain ⟨g3, g4⟩ := prs_get (prs_ext hv hx) hlt
    simp only [go_sem, ↓reduceIte, Nat.reduceEqDiff, Nat.reduceLeDiff, Nat.reduceAdd, Nat.reduceMul, Nat.reduceSub, Nat.reduceBEq, Nat.reduceGT, Nat.reduceLT, Int.reduceLE, Int.reduceLT, Int.reduceNeg, reduceCtorEq, c51_L0, e0, e3, w1, w2, c1, c2, z0, z1, g1, g2, g3, g4, Int.toNat_natCast, Option.bind_some, ext_push, ext_refl]
    refine FunI.by (F13 (ps.getD i (0, 0)) (ps.getD (i + 1) (0, 0)) H1) ?_
    rintro _ H2 ⟨rfl, hx2⟩
    have hxa := hx.trans (hx2.mono hx.size)
    cases hlt2 : ltP (ps.getD i (0, 0)) (ps.getD (i + 1) (0, 0)) with
    | true =>
      simp only [go_sem, ↓reduceIte, Nat.reduceEqDiff, Nat.reduceLeDiff, Nat.reduceAdd, Nat.reduceMul, Nat.reduceSub, Nat.reduceBEq, Nat.reduceGT, Nat.reduceLT, Int.reduceLE, Int.reduceLT, Int.reduceNeg, reduceCtorEq, e0, e3, w2]
      refine ⟨Hold.mk ⟨i + 1, by simp only [go_sem, ↓reduceIte, Nat.reduceEqDiff, Nat.reduceLeDiff, Nat.reduceAdd, Nat.reduceMul, Nat.reduceSub, Nat.reduceBEq, Nat.reduceGT, Nat.reduceLT, Int.reduceLE, Int.reduceLT, Int.reduceNeg, reduceCtorEq, e0], by simp only [go_sem, ↓reduceIte, Nat.reduceEqDiff, Nat.reduceLeDiff, Nat.reduceAdd, Nat.reduceMul, Nat.reduceSub, Nat.reduceBEq, Nat.reduceGT, Nat.reduceLT, Int.reduceLE, Int.reduceLT, Int.reduceNeg, reduceCtorEq], by omega, fun j hj1 hj2 => ?_, hxa⟩, by omega⟩
      by_cases hji : j = i
      · subst hji; exact hlt2
      · exact hj j (by omega) hj2
    | false =>
      simp only [go_sem, ↓reduceIte, Nat.reduceEqDiff, Nat.reduceLeDiff, Nat.reduceAdd, Nat.reduceMul, Nat.reduceSub, Nat.reduceBEq, Nat.reduceGT, Nat.reduceLT, Int.reduceLE, Int.reduceLT, Int.reduceNeg, reduceCtorEq]
      rw [riseP_no hlt hlt2]
      exact ⟨rfl, hxa⟩
  · have c1 : ¬ ((i + 1 : Nat) : Int) < ps.length := by omega
    simp only [go_sem, ↓reduceIte, Nat.reduceEqDiff, Nat.reduceLeDiff, Nat.reduceAdd, Nat.reduceMul, Nat.reduceSub, Nat.reduceBEq, Nat.reduceGT, Nat.reduceLT, Int.reduceLE, Int.reduceLT, Int.reduceNeg, reduceCtorEq, c51_L0, e0, e3, c1]
    rw [riseP_yes fun j hj1 => hj j (by omega) hj1]
    exact ⟨rfl, hx⟩
end Go.Proofs.Ytcgejfmbhpmjfaa
