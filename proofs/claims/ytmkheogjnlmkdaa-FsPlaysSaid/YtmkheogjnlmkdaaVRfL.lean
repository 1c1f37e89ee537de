/- The reference: Names; what a Crash leaves. -/
import Derived.Test.YtmkheogjnlmkdaaVRfK
set_option linter.unusedSimpArgs false
set_option linter.unusedVariables false
set_option maxRecDepth 20000
namespace Go.V
open Go
theorem withStep_mem {n : Nm} {x : Nat} {p : List En × Bool} {e f : En} (h : f ∈ (withStep n x p e).1) : f ∈ p.1 ∨ f = (n, x) ∨ f = e := by
  unfold withStep at h
  rcases List.mem_append.1 h with h | h
  · split at h
    · rcases List.mem_append.1 h with h | h
      · exact .inl h
      · exact .inr (.inl (by simpa using h))
    · exact .inl h
  · split at h
    · simp at h
    · exact .inr (.inr (by simpa using h))
theorem withP_mem {n : Nm} {x : Nat} {f : En} : ∀ (es : List En) (p : List En × Bool), f ∈ (es.foldl (withStep n x) p).1 → f ∈ p.1 ∨ f = (n, x) ∨ f ∈ es
  | [], p, h => .inl h
  | e :: es, p, h => by
    rw [List.foldl_cons] at h
    rcases withP_mem es _ h with h | h | h
    · rcases withStep_mem h with h | h | h
      · exact .inl h
      · exact .inr (.inl h)
      · exact .inr (.inr (by simp [h]))
    · exact .inr (.inl h)
    · exact .inr (.inr (List.mem_cons_of_mem _ h))
theorem withE_mem {es : List En} {n : Nm} {x : Nat} {f : En} (h : f ∈ withE es n x) : f = (n, x) ∨ f ∈ es := by
  unfold withE at h
  rcases List.mem_append.1 h with h | h
  · rcases withP_mem es _ h with h | h
    · simp at h
    · exact h
  · split at h
    · simp at h
    · exact .inl (by simpa using h)
theorem toldE_mem {es : List En} {n : Nm} {x : Nat} {f : En} (h : f ∈ toldE es x n) : f = (n, x) ∨ f ∈ es := by
  unfold toldE at h
  split at h
  · exact .inr (List.mem_filter.1 h).1
  · rcases withE_mem h with h | h
    · exact .inl h
    · exact .inr (List.mem_filter.1 h).1
/-- A directory behind those operations whose bits are 1. -/
def afterR (D : List En) (dir : Int) : List (Nat × Nm) → Nat → List En
  | [], _ => D
  | p :: l, i => afterR (if bitI dir i then toldE D p.1 p.2 else D) dir l (i + 1)
def moreR (cuts : List Int) (d : Dt) (j : Nat) : Nat := if j < cuts.length then (max 0 (min (cuts.getD j 0) ((d.1.length : Int) - d.2))).toNat else 0
end Go.V
namespace Go.Proofs.Ytmkheogjnlmkdaa
open Go Go.V
-- 87: (*pith/pithref8.FS).now
-- 55: (*pith/pithref8.FS).Names
-- 88: (*pith/pithref8.FS).left
-- 101: pith/pithref8.told
-- 69: pith/pithref.Bytes
-- 5: uint8
-- 34: []uint8
-- 3: int
-- 9: string
-- 58: []string
-- 125: pithref8.Entry
-- 129: pithref8.Data
-- 139: pithref8.Done
-- 44: pith/api.File
-- 26: []api.File
def namesR (r : RSt) : List Nm := if r.off then [] else r.now.map (·.1)
def leftF (r : RSt) (cuts : List Int) (j : Nat) (e : En) : Fl := (e.1, (fileR r e.2).1.take ((fileR r e.2).2 + moreR cuts (fileR r e.2) j))
def leftD (r : RSt) (dir : Int) : List En := afterR (r.dirs.getD 0 []) dir r.pend 0
def leftR (r : RSt) (dir : Int) (cuts : List Int) : List Fl := (leftD r dir).zipIdx.map fun p => leftF r cuts p.2 p.1
section
variable {H H' : Heap} {F F' : Nat → Prop} {b : Nat} {fv dv pv fv' dv' pv' : Value} {P P' : List (Value × Dt)} {Q Q' : List (Value × List En)} {r r0 r' : RSt}
set_option maxHeartbeats 800000 in
theorem F55 (h : RFsP H F b fv dv pv P Q r) (ok : OkR r) :
    Fun Try.prog 55 #[ptrOf b] H (fun v H' => Own H' H.size 9 1 v ((namesR r).map .string) ∧ Ext H H') := by
  refine fun_of mixed (args := [_]) Try.func55 Try.ntmps55 b55 r55 rfl ?_
  obtain ⟨g0, g1, g2, g3, g4, g5, g6⟩ := h.get
  cases ho : r.off with
  | true =>
    have e : namesR r = [] := by unfold namesR; rw [ho]; rfl
    rw [e]
    rw [ho] at g4
    simp only [go_sem, ↓reduceIte, Nat.reduceEqDiff, Nat.reduceLeDiff, Nat.reduceAdd, Nat.reduceMul, Nat.reduceSub, Nat.reduceBEq, Nat.reduceGT, Nat.reduceLT, Int.reduceLE, Int.reduceLT, Int.reduceNeg, reduceCtorEq, ptrOf, g4]
    exact ⟨Own.nil, Upto.refl _ _⟩
  | false =>
    have e : namesR r = r.now.map (·.1) := by unfold namesR; rw [ho]; rfl
    rw [e]
    rw [ho] at g4
    have hnl := ok.nowL
    simp only [go_sem, ↓reduceIte, Nat.reduceEqDiff, Nat.reduceLeDiff, Nat.reduceAdd, Nat.reduceMul, Nat.reduceSub, Nat.reduceBEq, Nat.reduceGT, Nat.reduceLT, Int.reduceLE, Int.reduceLT, Int.reduceNeg, reduceCtorEq, ptrOf, g4]
    refine LoopI.by mixed (fun ρ H' => ∃ (i : Nat) (m : Value), ρ 0 = ptrOf b ∧ ρ 3 = m ∧ ρ 4 = .int .i64 i ∧ i ≤ r.now.length ∧ Own H' H.size 9 1 m (((r.now.take i).map (·.1)).map .string) ∧ Ext H H') (fun ρ _ => r.now.length - (iof (ρ 4)).toNat) ?_ ?_
    · exact ⟨0, _, by simp only [go_sem, ↓reduceIte, Nat.reduceEqDiff, Nat.reduceLeDiff, Nat.reduceAdd, Nat.reduceMul, Nat.reduceSub, Nat.reduceBEq, Nat.reduceGT, Nat.reduceLT, Int.reduceLE, Int.reduceLT, Int.reduceNeg, reduceCtorEq, ptrOf], by simp only [go_sem, ↓reduceIte, Nat.reduceEqDiff, Nat.reduceLeDiff, Nat.reduceAdd, Nat.reduceMul, Nat.reduceSub, Nat.reduceBEq, Nat.reduceGT, Nat.reduceLT, Int.reduceLE, Int.reduceLT, Int.reduceNeg, reduceCtorEq] <;> rfl, by simp only [go_sem, ↓reduceIte, Nat.reduceEqDiff, Nat.reduceLeDiff, Nat.reduceAdd, Nat.reduceMul, Nat.reduceSub, Nat.reduceBEq, Nat.reduceGT, Nat.reduceLT, Int.reduceLE, Int.reduceLT, Int.reduceNeg, reduceCtorEq] <;> rfl, by omega, Own.nil, Upto.refl _ _⟩
    rintro ρ H1 ⟨i, m, e0, e3, e4, hi, hm, hx⟩
    have h1 := h.ext hx
    simp only [go_sem, ↓reduceIte, Nat.reduceEqDiff, Nat.reduceLeDiff, Nat.reduceAdd, Nat.reduceMul, Nat.reduceSub, Nat.reduceBEq, Nat.reduceGT, Nat.reduceLT, Int.reduceLE, Int.reduceLT, Int.reduceNeg, reduceCtorEq, c55_L0, e0, e3, e4, ptrOf]
    refine FunI.by (F87 h1 ok.dne (by have := ok.dl; omega)) ?_
    rintro v _ ⟨⟨ov, hvF⟩, rfl⟩
    obtain ⟨a, cap, rfl⟩ := ent_form ov.sl
    by_cases hlt : i < r.now.length
    · obtain ⟨e, hei⟩ : ∃ e, r.now[i]? = some e := ⟨_, List.getElem?_eq_getElem hlt⟩
      have c1 : (i : Int) < r.now.length := by omega
      have c0 : (0 : Int) ≤ i := by omega
      have w1 : IntKind.i64.wrap ((i : Int) + 1) = ((i + 1 : Nat) : Int) := by rw [w64_id (by omega) (by omega)]; omega
      simp only [go_sem, ↓reduceIte, Nat.reduceEqDiff, Nat.reduceLeDiff, Nat.reduceAdd, Nat.reduceMul, Nat.reduceSub, Nat.reduceBEq, Nat.reduceGT, Nat.reduceLT, Int.reduceLE, Int.reduceLT, Int.reduceNeg, reduceCtorEq, e0, e3, e4, ptrOf, c1, c0, Int.toNat_natCast]
      refine FunI.by (F87 h1 ok.dne (by have := ok.dl; omega)) ?_
      rintro v _ ⟨⟨ov2, hvF⟩, rfl⟩
      obtain ⟨a', cap', rfl⟩ := ent_form ov2.sl
      obtain ⟨g, o, rfl, gn, _⟩ := ent_at ov2.sl hei
      simp only [go_sem, ↓reduceIte, Nat.reduceEqDiff, Nat.reduceLeDiff, Nat.reduceAdd, Nat.reduceMul, Nat.reduceSub, Nat.reduceBEq, Nat.reduceGT, Nat.reduceLT, Int.reduceLE, Int.reduceLT, Int.reduceNeg, reduceCtorEq, e0, e3, e4, c1, c0, Int.toNat_natCast, gn]
      refine RunI.by (append_lit ty58 ty9 rfl (by decide) hm (ys := [_]) (m := 1) rfl rfl (n := i + 1) (by simp; omega) (by omega) (by omega) hx.size) ?_
      rintro m2 H2 ⟨o2, gr, _⟩
      simp only [go_sem, ↓reduceIte, Nat.reduceEqDiff, Nat.reduceLeDiff, Nat.reduceAdd, Nat.reduceMul, Nat.reduceSub, Nat.reduceBEq, Nat.reduceGT, Nat.reduceLT, Int.reduceLE, Int.reduceLT, Int.reduceNeg, reduceCtorEq, e0, e4, w1]
      refine ⟨Hold.mk ⟨i + 1, m2, by simp only [go_sem, ↓reduceIte, Nat.reduceEqDiff, Nat.reduceLeDiff, Nat.reduceAdd, Nat.reduceMul, Nat.reduceSub, Nat.reduceBEq, Nat.reduceGT, Nat.reduceLT, Int.reduceLE, Int.reduceLT, Int.reduceNeg, reduceCtorEq, e0, ptrOf], by simp only [go_sem, ↓reduceIte, Nat.reduceEqDiff, Nat.reduceLeDiff, Nat.reduceAdd, Nat.reduceMul, Nat.reduceSub, Nat.reduceBEq, Nat.reduceGT, Nat.reduceLT, Int.reduceLE, Int.reduceLT, Int.reduceNeg, reduceCtorEq], by simp only [go_sem, ↓reduceIte, Nat.reduceEqDiff, Nat.reduceLeDiff, Nat.reduceAdd, Nat.reduceMul, Nat.reduceSub, Nat.reduceBEq, Nat.reduceGT, Nat.reduceLT, Int.reduceLE, Int.reduceLT, Int.reduceNeg, reduceCtorEq], by omega, ?_, hx.trans (gr.upto hm hx.size)⟩, by omega⟩
      rw [List.take_add_one, hei]
      simpa using o2
    · have c1 : ¬ (i : Int) < r.now.length := by omega
      have : i = r.now.length := by omega
      subst this
      rw [List.take_of_length_le (Nat.le_refl _)] at hm
      simp only [go_sem, ↓reduceIte, Nat.reduceEqDiff, Nat.reduceLeDiff, Nat.reduceAdd, Nat.reduceMul, Nat.reduceSub, Nat.reduceBEq, Nat.reduceGT, Nat.reduceLT, Int.reduceLE, Int.reduceLT, Int.reduceNeg, reduceCtorEq, e0, e3, e4, c1]
      exact ⟨hm, hx⟩
end
end Go.Proofs.Ytmkheogjnlmkdaa
