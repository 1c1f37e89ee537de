/- The arguments of the rows: arcs and slices of arcs opened as the walks name them. -/
import Derived.Test.YtcgejfmbhpmjfaaVCard
import Derived.Test.YtcgejfmbhpmjfaaVPair
import Derived.Test.YtcgejfmbhpmjfaaRows
set_option linter.unusedSimpArgs false
set_option linter.unusedVariables false
set_option maxRecDepth 20000
namespace Go.Proofs.Ytcgejfmbhpmjfaa
open Go Go.V Go.ChangeShapes Go.WideShapes Go.ChangeAt Go.RowKit
-- 3: int
-- 5: uint8
-- 30: []uint8
-- 24: pith/api.Pair
-- 22: []api.Pair
theorem Try.own : ownKnob Try.prog.godebug = none := by kernel_rfl
theorem Try.laidOut : laidOutB Try.prog = true := by kernel_rfl
theorem cellsInt : Try.prog.cellsOf 3 = 1 := by kernel_rfl
theorem cellsU8 : Try.prog.cellsOf 5 = 1 := by kernel_rfl
theorem cellsPr : Try.prog.cellsOf 24 = 2 := by kernel_rfl
theorem cellsPrs : Try.prog.cellsOf 22 = 1 := by kernel_rfl
theorem byt_of {xs : List Int} (h : ∀ y ∈ xs, IntR .u8 y) : Byt xs := by
  intro x hx
  have := h x hx
  simp only [IntR, Lit.wf, IntKind.min, IntKind.max, IntKind.signed, IntKind.bits, Bool.and_eq_true, decide_eq_true_eq] at this
  simp at this
  omega
theorem cells_one {v : Value} {t : TypeId} {e : TypeId} {W : World} {base : Nat} (ht : Try.prog.underlying t = some (.slice e)) (hv : Value.okWide Try.prog W .any base t v) : v.cells.toList = [v] := by
  obtain ⟨a, n, m, rfl⟩ := okWide_slice ht hv
  rfl
section
variable {D : Type} {enc : TypeId × Value → D} {W : World}
theorem trod_pr {sp : Nat → Bool} {held : Bool} {n : Nat} {cs : List Value} {x : DataW D × List MemPlace} (h : DataW.trod enc Try.prog W 0 sp held n 24 cs = some x) :
    ∃ p : Pr, cs = [.int .i64 p.1, .int .i64 p.2] ∧ IntR .i64 p.1 ∧ IntR .i64 p.2 := by
  obtain ⟨xs, n, _, hx, hl, hlen, hfs⟩ := DataW.trod_struct Try.underlying24 h
  rw [cellsPr] at hl
  obtain ⟨c0, c1, rfl⟩ : ∃ c0 c1, cs = [c0, c1] := by
    match cs, hl with
    | [a, b], _ => exact ⟨a, b, rfl⟩
  have hl2 : xs.length = 2 := hlen
  obtain ⟨y0, y1, rfl⟩ : ∃ y0 y1, xs = [y0, y1] := by
    match xs, hl2 with
    | [a, b], _ => exact ⟨a, b, rfl⟩
  have t0 : DataW.trod enc Try.prog W 0 sp held n 3 (([c0, c1].drop 0).take (Try.prog.cellsOf 3)) = some y0 := hfs 0 _ rfl
  have t1 : DataW.trod enc Try.prog W 0 sp held n 3 (([c0, c1].drop 1).take (Try.prog.cellsOf 3)) = some y1 := hfs 1 _ rfl
  rw [cellsInt] at t0 t1
  obtain ⟨p, h0, _, hw0⟩ := DataW.trod_int Try.underlying3 t0
  obtain ⟨q, h1, _, hw1⟩ := DataW.trod_int Try.underlying3 t1
  replace h0 : c0 = .int .i64 p := by simpa using h0
  replace h1 : c1 = .int .i64 q := by simpa using h1
  subst h0 h1
  exact ⟨(p, q), rfl, hw0, hw1⟩
theorem open_pr {base : Nat} {sp : Nat → Bool} {held : Bool} {v : Value} {d : DataW D} {ps : List MemPlace} (hv : Value.okWide Try.prog W .any base 24 v) (h : DataW.Trod enc Try.prog W 0 sp held 24 v d ps) :
    ∃ p : Pr, v = pv p ∧ IntR .i64 p.1 ∧ IntR .i64 p.2 := by
  obtain ⟨fuel, hf⟩ := h
  have hag : ∃ cs, v = .agg cs := by
    obtain ⟨cs, h1, _⟩ := okWide_struct Try.underlying24 hv
    exact ⟨cs, h1⟩
  obtain ⟨cs, rfl⟩ := hag
  obtain ⟨p, hp, h1, h2⟩ := trod_pr hf
  have hcs : cs = #[.int .i64 p.1, .int .i64 p.2] := by
    have := congrArg List.toArray (show cs.toList = _ from hp)
    simpa using this
  exact ⟨p, by rw [hcs]; rfl, h1, h2⟩
theorem open_prs {n : Nat} {cs : List Value} {x : DataW D × List MemPlace} {sp : Nat → Bool} {held : Bool} (h : DataW.trod enc Try.prog W 0 sp held n 22 cs = some x) :
    ∃ (v : Value) (ps : List Pr), cs = [v] ∧ Prs W.heap v ps ∧ ∀ p ∈ ps, IntR .i64 p.1 ∧ IntR .i64 p.2 := by
  rcases DataW.trod_slice Try.underlying22 h with ⟨rfl, rfl⟩ | ⟨a, len, cap, elems, rest, m, rfl, rfl, rfl, hb, hl, hm, hlen, hel, hsp, hns⟩
  · exact ⟨_, [], rfl, Sl.nil, by simp⟩
  · have each : ∀ i, i < len → ∃ p : Pr, W.cell? (a.add (i * 2)) = some (.int .i64 p.1) ∧ W.cell? (a.add (i * 2 + 1)) = some (.int .i64 p.2) ∧ IntR .i64 p.1 ∧ IntR .i64 p.2 := by
      intro i hi
      have h1 := hel i hi
      rw [cellsPr] at h1
      have hy : i < elems.length := by omega
      rw [List.getElem?_eq_getElem hy, Option.bind_eq_some_iff] at h1
      obtain ⟨cs', hcs, hy'⟩ := h1
      obtain ⟨h2, h3, h4⟩ := World.cells?_some hcs
      obtain ⟨p, rfl, w1, w2⟩ := trod_pr hy'
      have h5 := h4 0 (by omega)
      have h6 := h4 1 (by omega)
      rw [Addr.add_add, Nat.add_zero] at h5
      rw [Addr.add_add] at h6
      exact ⟨p, by simpa using h5, by simpa using h6, w1, w2⟩
    have hps : ∀ k, k ≤ len → ∃ ps : List Pr, ps.length = k ∧ (∀ i, i < k → W.cell? (a.add (i * 2)) = some (.int .i64 (ps.getD i (0, 0)).1) ∧ W.cell? (a.add (i * 2 + 1)) = some (.int .i64 (ps.getD i (0, 0)).2)) ∧ ∀ p ∈ ps, IntR .i64 p.1 ∧ IntR .i64 p.2 := by
      intro k
      induction k with
      | zero => intro _; exact ⟨[], rfl, by omega, by simp⟩
      | succ k ih =>
        intro hk
        obtain ⟨ps, h1, h2, h3⟩ := ih (by omega)
        obtain ⟨p, e1, e2, w1, w2⟩ := each k (by omega)
        refine ⟨ps ++ [p], by simp [h1], fun i hi => ?_, fun q hq => ?_⟩
        · by_cases hik : i = k
          · subst hik
            rw [show (ps ++ [p]).getD i (0, 0) = p by rw [← h1]; simp]
            exact ⟨e1, e2⟩
          · rw [show (ps ++ [p]).getD i (0, 0) = ps.getD i (0, 0) by rw [List.getD_eq_getElem?_getD, List.getElem?_append_left (by omega), ← List.getD_eq_getElem?_getD]]
            exact h2 i (by omega)
        · rw [List.mem_append, List.mem_singleton] at hq
          rcases hq with hq | rfl
          · exact h3 q hq
          · exact ⟨w1, w2⟩
    obtain ⟨ps, h1, h2, h3⟩ := hps len (Nat.le_refl _)
    refine ⟨_, ps, rfl, ⟨_, _, _, rfl, hl, by rw [cp_len, h1], ?_⟩, h3⟩
    by_cases h0 : len = 0
    · exact .inl h0
    · obtain ⟨hu, _⟩ := h2 0 (by omega)
      obtain ⟨b, o, s⟩ := a
      have hspot : s = none ∧ ∃ c t fr, W.heap[b]? = some (.cells c t fr) := by
        simp only [Addr.add, Nat.zero_mul, if_true, World.cell?] at hu
        split at hu
        · rename_i c t fr hb'
          refine ⟨?_, c, t, fr, hb'⟩
          cases s with
          | none => rfl
          | some k => simp at hu
        · cases hu
      obtain ⟨rfl, c, t, fr, hb'⟩ := hspot
      refine .inr ⟨b, o, c, t, fr, rfl, hb', fun i hi => ?_⟩
      obtain ⟨q1, q2⟩ := h2 (i / 2) (by omega)
      obtain ⟨r1, r2⟩ := cp_get (ps := ps) (i := i / 2) (by omega)
      have hc : ∀ j v, W.cell? ((⟨b, o, none⟩ : Addr).add j) = some v → c[o + j]? = some v := by
        intro j v hj
        rw [add_none] at hj
        simpa [World.cell?, hb'] using hj
      rcases (show i = i / 2 * 2 ∨ i = i / 2 * 2 + 1 by omega) with e | e
      · rw [e, r1]; exact hc _ _ q1
      · rw [e, r2]; exact hc _ _ q2
/-- A slice of arcs among the arguments. -/
theorem arg_prs {base : Nat} {sp : Nat → Bool} {held : Bool} {v : Value} {d : DataW D} {qs : List MemPlace} (hv : Value.okWide Try.prog W .any base 22 v) (h : DataW.Trod enc Try.prog W 0 sp held 22 v d qs) : ∃ ps, Prs W.heap v ps ∧ ∀ p ∈ ps, IntR .i64 p.1 ∧ IntR .i64 p.2 := by
  obtain ⟨f, hf⟩ := h
  rw [cells_one Try.underlying22 hv] at hf
  obtain ⟨w, ps, e, h1, h2⟩ := open_prs hf
  obtain rfl : v = w := by simpa using e
  exact ⟨ps, h1, h2⟩
/-- A slice of bytes among the arguments. -/
theorem arg_bs {base : Nat} {sp : Nat → Bool} {held : Bool} {v : Value} {d : DataW D} {qs : List MemPlace} (hv : Value.okWide Try.prog W .any base 30 v) (h : DataW.Trod enc Try.prog W 0 sp held 30 v d qs) : ∃ xs, Ints W.heap 5 .u8 v xs ∧ Byt xs := by
  obtain ⟨f, hf⟩ := h
  rw [cells_one Try.underlying30 hv] at hf
  obtain ⟨w, xs, e, h1, h2, _⟩ := open_intsl Try.underlying30 Try.underlying5 cellsU8 hf
  obtain rfl : v = w := by simpa using e
  exact ⟨xs, h1, byt_of h2⟩
end
end Go.Proofs.Ytcgejfmbhpmjfaa
