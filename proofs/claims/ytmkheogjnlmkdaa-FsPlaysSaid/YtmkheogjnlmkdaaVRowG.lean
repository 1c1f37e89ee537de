/- The arguments of rows: numbers, lists of numbers, of bytes, of structures. -/
import Derived.Test.YtmkheogjnlmkdaaVCard
import Derived.Test.YtmkheogjnlmkdaaVRec
import Derived.Test.YtmkheogjnlmkdaaRows
set_option linter.unusedSimpArgs false
set_option linter.unusedVariables false
set_option maxRecDepth 20000
namespace Go.V
open Go Go.ChangeShapes Go.WideShapes Go.ChangeAt Go.RowKit
section
variable {D : Type} {enc : TypeId × Value → D} {P : Program} {W : World}
theorem open_slr {α : Type} {t e : TypeId} {n k : Nat} {cs : List Value} {x : DataW D × List MemPlace} {sp : Nat → Bool} {held : Bool} (f : α → List Value) (R : α → Prop) (hk : 0 < k) (ht : P.underlying t = some (.slice e)) (hc : P.cellsOf e = k)
    (hf : ∀ p, (f p).length = k) (hR : ∀ m cs y, DataW.trod enc P W 0 sp held m e cs = some y → ∃ p, cs = f p ∧ R p)
    (h : DataW.trod enc P W 0 sp held n t cs = some x) : ∃ (v : Value) (ps : List α), cs = [v] ∧ Sl W.heap e k v (ps.flatMap f) ∧ ∀ p ∈ ps, R p := by
  rcases DataW.trod_slice ht h with ⟨rfl, rfl⟩ | ⟨a, len, cap, elems, rest, m, rfl, rfl, rfl, hb, hl, hm, hlen, hel, hsp, hns⟩
  · exact ⟨_, [], rfl, Sl.nil, by simp⟩
  · have each : ∀ i, i < len → ∃ p, R p ∧ ∀ j, j < k → W.cell? (a.add (i * k + j)) = (f p)[j]? := by
      intro i hi
      have h1 := hel i hi
      rw [hc] at h1
      have hy : i < elems.length := by omega
      rw [List.getElem?_eq_getElem hy, Option.bind_eq_some_iff] at h1
      obtain ⟨cs', hcs, hy'⟩ := h1
      obtain ⟨h2, h3, h4⟩ := World.cells?_some hcs
      obtain ⟨p, rfl, w⟩ := hR _ _ _ hy'
      refine ⟨p, w, fun j hj => ?_⟩
      have h5 := h4 j hj
      rw [Addr.add_add] at h5
      rw [h5]
    have hps : ∀ q, q ≤ len → ∃ ps : List α, ps.length = q ∧ (∀ i p, ps[i]? = some p → ∀ j, j < k → W.cell? (a.add (i * k + j)) = (f p)[j]?) ∧ ∀ p ∈ ps, R p := by
      intro q
      induction q with
      | zero => intro _; exact ⟨[], rfl, by simp, by simp⟩
      | succ q ih =>
        intro hq
        obtain ⟨ps, h1, h2, h3⟩ := ih (by omega)
        obtain ⟨p, w, e1⟩ := each q (by omega)
        refine ⟨ps ++ [p], by simp [h1], fun i r hr => ?_, fun r hr => ?_⟩
        · by_cases hik : i < q
          · rw [List.getElem?_append_left (by omega)] at hr
            exact h2 i r hr
          · have hi := (List.getElem?_eq_some_iff.1 hr).1
            rw [List.length_append, List.length_singleton] at hi
            obtain rfl : i = q := by omega
            rw [List.getElem?_append_right (by omega), h1, Nat.sub_self] at hr
            simp only [List.getElem?_cons_zero, Option.some.injEq] at hr
            subst hr
            exact e1
        · rw [List.mem_append, List.mem_singleton] at hr
          rcases hr with hr | rfl
          · exact h3 r hr
          · exact w
    obtain ⟨ps, h1, h2, h3⟩ := hps len (Nat.le_refl _)
    refine ⟨_, ps, rfl, ⟨_, _, _, rfl, hl, by rw [fl_len hf, h1], ?_⟩, h3⟩
    by_cases h0 : len = 0
    · exact .inl h0
    · have hp0 : ps[0]? = some ps[0] := List.getElem?_eq_getElem (by omega)
      have hu := h2 0 _ hp0 0 hk
      rw [List.getElem?_eq_getElem (by rw [hf]; exact hk)] at hu
      obtain ⟨b, o, s⟩ := a
      have hspot : s = none ∧ ∃ c t fr, W.heap[b]? = some (.cells c t fr) := by
        simp only [Addr.add, Nat.zero_mul, Nat.add_zero, if_true, World.cell?] at hu
        split at hu
        · rename_i c t fr hb'
          refine ⟨?_, c, t, fr, hb'⟩
          cases s with
          | none => rfl
          | some k => simp at hu
        · cases hu
      obtain ⟨rfl, c, t, fr, hb'⟩ := hspot
      refine .inr ⟨b, o, c, t, fr, rfl, hb', fun i hi => ?_⟩
      have hdiv : i / k < len := Nat.div_lt_of_lt_mul (by rw [Nat.mul_comm]; exact hi)
      have hmod : i % k < k := Nat.mod_lt _ hk
      have hpi : ps[i / k]? = some ps[i / k] := List.getElem?_eq_getElem (by omega)
      have q1 := h2 (i / k) _ hpi (i % k) hmod
      have q2 := fl_get hf ps _ _ _ hpi hmod
      have hi' : i / k * k + i % k = i := by rw [Nat.mul_comm]; exact Nat.div_add_mod i k
      rw [hi'] at q1 q2
      rw [q2, ← q1, add_none]
      simp [World.cell?, hb']
end
end Go.V
namespace Go.Proofs.Ytmkheogjnlmkdaa
open Go Go.V Go.ChangeShapes Go.WideShapes Go.ChangeAt Go.RowKit
-- 3: int
-- 5: uint8
-- 62: []int
-- 34: []uint8
-- 4: bool
-- 9: string
theorem Try.own : ownKnob Try.prog.godebug = none := by kernel_rfl
theorem Try.laidOut : laidOutB Try.prog = true := by kernel_rfl
theorem cellsInt : Try.prog.cellsOf 3 = 1 := by kernel_rfl
theorem cellsU8 : Try.prog.cellsOf 5 = 1 := by kernel_rfl
theorem cellsBool : Try.prog.cellsOf 4 = 1 := by kernel_rfl
theorem cellsStr : Try.prog.cellsOf 9 = 1 := by kernel_rfl
theorem cells_one {v : Value} {t : TypeId} {e : TypeId} {W : World} {base : Nat} (ht : Try.prog.underlying t = some (.slice e)) (hv : Value.okWide Try.prog W .any base t v) : v.cells.toList = [v] := by
  obtain ⟨a, n, m, rfl⟩ := okWide_slice ht hv
  rfl
theorem u8_rng {y : Int} (h : IntR .u8 y) : 0 ≤ y ∧ y < 256 := by
  simp only [IntR, Lit.wf, IntKind.min, IntKind.max, IntKind.signed, IntKind.bits, Bool.and_eq_true, decide_eq_true_eq] at h
  simp at h
  omega
theorem i64_rng {y : Int} (h : IntR .i64 y) : -9223372036854775808 ≤ y ∧ y < 9223372036854775808 := by
  simp only [IntR, Lit.wf, IntKind.min, IntKind.max, IntKind.signed, IntKind.bits, Bool.and_eq_true, decide_eq_true_eq] at h
  simp at h
  omega
theorem byt_of {xs : List Int} (h : ∀ y ∈ xs, IntR .u8 y) : Byt xs := fun x hx => u8_rng (h x hx)
theorem arg_is {D : Type} {enc : TypeId × Value → D} {W : World} {base : Nat} {sp : Nat → Bool} {held : Bool} {v : Value} {d : DataW D} {qs : List MemPlace} (hv : Value.okWide Try.prog W .any base 62 v) (h : DataW.Trod enc Try.prog W 0 sp held 62 v d qs) :
    ∃ xs, Ints W.heap 3 .i64 v xs ∧ ∀ y ∈ xs, IntR .i64 y := by
  obtain ⟨f, hf⟩ := h
  rw [cells_one Try.underlying62 hv] at hf
  obtain ⟨w, xs, e, hx, hr, _⟩ := open_intsl Try.underlying62 Try.underlying3 cellsInt hf
  obtain rfl : v = w := by simpa using e
  exact ⟨xs, hx, hr⟩
end Go.Proofs.Ytmkheogjnlmkdaa
