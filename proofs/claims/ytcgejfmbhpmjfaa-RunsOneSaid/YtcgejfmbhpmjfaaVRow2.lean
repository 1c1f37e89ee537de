/- Slices of anything among the arguments, element by element. -/
import Derived.Test.YtcgejfmbhpmjfaaVRow
set_option linter.unusedSimpArgs false
set_option linter.unusedVariables false
set_option maxRecDepth 20000
namespace Go.V
open Go Go.ChangeShapes Go.WideShapes Go.ChangeAt Go.RowKit
theorem flat_get {α β : Type} {f : α → List β} {k : Nat} (hf : ∀ p, (f p).length = k) : ∀ {ps : List α} {i j : Nat} {p : α}, ps[i]? = some p → j < k → (ps.flatMap f)[i * k + j]? = (f p)[j]?
  | q :: ps, 0, j, p, h, hj => by
    simp only [List.getElem?_cons_zero, Option.some.injEq] at h
    subst h
    rw [Nat.zero_mul, Nat.zero_add, List.flatMap_cons, List.getElem?_append_left (by rw [hf]; exact hj)]
  | q :: ps, i + 1, j, p, h, hj => by
    rw [List.getElem?_cons_succ] at h
    rw [List.flatMap_cons, List.getElem?_append_right (by rw [hf, Nat.add_mul]; omega), hf, show (i + 1) * k + j - k = i * k + j by rw [Nat.add_mul]; omega]
    exact flat_get hf h hj
theorem flat_len {α β : Type} {f : α → List β} {k : Nat} (hf : ∀ p, (f p).length = k) : ∀ (ps : List α), (ps.flatMap f).length = ps.length * k
  | [] => by simp
  | q :: ps => by rw [List.flatMap_cons, List.length_append, hf, flat_len hf ps, List.length_cons, Nat.add_mul]; omega
section
variable {D : Type} {enc : TypeId × Value → D} {P : Program} {W : World}
theorem open_slk {α : Type} {t e : TypeId} {n k : Nat} {cs : List Value} {x : DataW D × List MemPlace} {sp : Nat → Bool} {held : Bool} (f : α → List Value) (R : α → Prop) (hk : 0 < k) (ht : P.underlying t = some (.slice e)) (hc : P.cellsOf e = k)
    (hf : ∀ p, (f p).length = k) (hR : ∀ m cs y, DataW.trod enc P W 0 sp held m e cs = some y → ∃ p, cs = f p ∧ R p)
    (h : DataW.trod enc P W 0 sp held n t cs = some x) : ∃ (v : Value) (ps : List α), cs = [v] ∧ Sl W.heap e k v (ps.flatMap f) ∧ ∀ p ∈ ps, R p := by
  rcases DataW.trod_slice ht h with ⟨rfl, rfl⟩ | ⟨a, len, cap, elems, rest, m, rfl, rfl, rfl, hb, hl, hm, hlen, hel, hsp, hns⟩
  · exact ⟨_, [], rfl, Sl.nil, by simp⟩
  · have each : ∀ i, i < len → ∃ p, R p ∧ ∀ j, j < k → W.cell? (a.add (i * k + j)) = (f p)[j]? := by
      intro i hi
      have h1 := hel i hi
      rw [hc] at h1
      have hy : i < elems.length := by omega
      rw [List.getElem?_eq_getElem hy, Option.bind_eq_some_iff] at h1
      obtain ⟨cs', hcs, hy'⟩ := h1
      obtain ⟨h2, h3, h4⟩ := World.cells?_some hcs
      obtain ⟨p, rfl, w⟩ := hR _ _ _ hy'
      refine ⟨p, w, fun j hj => ?_⟩
      have h5 := h4 j hj
      rw [Addr.add_add] at h5
      rw [h5]
    have hps : ∀ q, q ≤ len → ∃ ps : List α, ps.length = q ∧ (∀ i p, ps[i]? = some p → ∀ j, j < k → W.cell? (a.add (i * k + j)) = (f p)[j]?) ∧ ∀ p ∈ ps, R p := by
      intro q
      induction q with
      | zero => intro _; exact ⟨[], rfl, by simp, by simp⟩
      | succ q ih =>
        intro hq
        obtain ⟨ps, h1, h2, h3⟩ := ih (by omega)
        obtain ⟨p, w, e1⟩ := each q (by omega)
        refine ⟨ps ++ [p], by simp [h1], fun i r hr => ?_, fun r hr => ?_⟩
        · by_cases hik : i < q
          · rw [List.getElem?_append_left (by omega)] at hr
            exact h2 i r hr
          · have hi := (List.getElem?_eq_some_iff.1 hr).1
            rw [List.length_append, List.length_singleton] at hi
            obtain rfl : i = q := by omega
            rw [List.getElem?_append_right (by omega), h1, Nat.sub_self] at hr
            simp only [List.getElem?_cons_zero, Option.some.injEq] at hr
            subst hr
            exact e1
        · rw [List.mem_append, List.mem_singleton] at hr
          rcases hr with hr | rfl
          · exact h3 r hr
          · exact w
    obtain ⟨ps, h1, h2, h3⟩ := hps len (Nat.le_refl _)
    refine ⟨_, ps, rfl, ⟨_, _, _, rfl, hl, by rw [flat_len hf, h1], ?_⟩, h3⟩
    by_cases h0 : len = 0
    · exact .inl h0
    · have hp0 : ps[0]? = some ps[0] := List.getElem?_eq_getElem (by omega)
      have hu := h2 0 _ hp0 0 hk
      rw [List.getElem?_eq_getElem (by rw [hf]; exact hk)] at hu
      obtain ⟨b, o, s⟩ := a
      have hspot : s = none ∧ ∃ c t fr, W.heap[b]? = some (.cells c t fr) := by
        simp only [Addr.add, Nat.zero_mul, Nat.add_zero, if_true, World.cell?] at hu
        split at hu
        · rename_i c t fr hb'
          refine ⟨?_, c, t, fr, hb'⟩
          cases s with
          | none => rfl
          | some k => simp at hu
        · cases hu
      obtain ⟨rfl, c, t, fr, hb'⟩ := hspot
      refine .inr ⟨b, o, c, t, fr, rfl, hb', fun i hi => ?_⟩
      have hdiv : i / k < len := Nat.div_lt_of_lt_mul (by rw [Nat.mul_comm]; exact hi)
      have hmod : i % k < k := Nat.mod_lt _ hk
      have hpi : ps[i / k]? = some ps[i / k] := List.getElem?_eq_getElem (by omega)
      have q1 := h2 (i / k) _ hpi (i % k) hmod
      have q2 := flat_get (f := f) hf hpi hmod
      have hi' : i / k * k + i % k = i := by rw [Nat.mul_comm]; exact Nat.div_add_mod i k
      rw [hi'] at q1 q2
      rw [q2, ← q1, add_none]
      simp [World.cell?, hb']
end
/-- A slice's cells, by element. -/
theorem Sl.elem {α : Type} {H : Heap} {e : TypeId} {k : Nat} {f : α → List Value} (hf : ∀ p, (f p).length = k) {b o len cap : Nat} {ps : List α} (h : Sl H e k (.slice (some ⟨b, o, none⟩) len cap) (ps.flatMap f)) {i : Nat} {p : α} (hp : ps[i]? = some p) {j : Nat} (hj : j < k) :
    hget H b (o + (i * k + j)) = (f p)[j]? := by
  have hl := Sl.length h
  rw [flat_len hf] at hl
  have hi := (List.getElem?_eq_some_iff.1 hp).1
  have : i * k + j < len * k := by
    have : (i + 1) * k ≤ ps.length * k := Nat.mul_le_mul_right _ hi
    rw [Nat.add_mul] at this
    omega
  rw [Sl.get h this, flat_get hf hp hj]
theorem Sl.form_k {α : Type} {H : Heap} {e : TypeId} {k : Nat} {f : α → List Value} (hk : 0 < k) (hf : ∀ p, (f p).length = k) {v : Value} {ps : List α} (h : Sl H e k v (ps.flatMap f)) : ∃ a cap, v = .slice a ps.length cap := by
  obtain ⟨a, len, cap, rfl⟩ := Sl.form h
  have hl := Sl.length h
  rw [flat_len hf] at hl
  have := Nat.eq_of_mul_eq_mul_right hk hl
  exact ⟨a, cap, by rw [this]⟩
end Go.V
