/- Calls among the arguments. -/
import Derived.Test.YtmkheogjnlmkdaaVRowG
import Derived.Test.YtmkheogjnlmkdaaVOps
set_option linter.unusedSimpArgs false
set_option linter.unusedVariables false
set_option maxRecDepth 20000
namespace Go.V
open Go Go.ChangeShapes Go.WideShapes Go.ChangeAt Go.RowKit
section
variable {D : Type} {enc : TypeId × Value → D} {P : Program} {W : World}
/-- A slice opened, with the readings of its elements. -/
theorem open_slw {α : Type} {t e : TypeId} {n k : Nat} {cs : List Value} {x : DataW D × List MemPlace} {sp : Nat → Bool} {held : Bool} (f : α → List Value) (R : α → DataW D → Prop) (hk : 0 < k) (ht : P.underlying t = some (.slice e)) (hc : P.cellsOf e = k)
    (hf : ∀ p, (f p).length = k) (hR : ∀ m cs y, DataW.trod enc P W 0 sp held m e cs = some y → ∃ p, cs = f p ∧ R p y.1)
    (h : DataW.trod enc P W 0 sp held n t cs = some x) : ∃ (v : Value) (ps : List α), cs = [v] ∧ Sl W.heap e k v (ps.flatMap f) ∧ ∀ p ∈ ps, ∃ d, R p d ∧ ∀ w ∈ d.weights P e, w ∈ x.1.weights P t := by
  rcases DataW.trod_slice ht h with ⟨rfl, rfl⟩ | ⟨a, len, cap, elems, rest, m, rfl, rfl, rfl, hb, hl, hm, hlen, hel, hsp, hns⟩
  · exact ⟨_, [], rfl, Sl.nil, by simp⟩
  · have hwt : ∀ y ∈ elems, ∀ w ∈ y.1.weights P e, w ∈ (DataW.slice (elems.map (·.1)) (rest.map (·.1))).weights P t := by
      intro y hy w hw
      have key : ∀ l : List (DataW D × List MemPlace), y ∈ l → w ∈ DataW.weightsAll P e (l.map (·.1)) := by
        intro l
        induction l with
        | nil => intro h; simp at h
        | cons z l ih =>
          intro h
          rw [List.map_cons]
          unfold DataW.weightsAll
          rw [List.mem_append]
          rcases List.mem_cons.1 h with rfl | h
          · exact .inl hw
          · exact .inr (ih h)
      unfold DataW.weights
      rw [ht]
      simp only [List.mem_cons, List.mem_append]
      exact .inr (.inl (key elems hy))
    have each : ∀ i, i < len → ∃ p, (∃ d, R p d ∧ ∀ w ∈ d.weights P e, w ∈ (DataW.slice (elems.map (·.1)) (rest.map (·.1))).weights P t) ∧ ∀ j, j < k → W.cell? (a.add (i * k + j)) = (f p)[j]? := by
      intro i hi
      have h1 := hel i hi
      rw [hc] at h1
      have hy : i < elems.length := by omega
      rw [List.getElem?_eq_getElem hy, Option.bind_eq_some_iff] at h1
      obtain ⟨cs', hcs, hy'⟩ := h1
      obtain ⟨h2, h3, h4⟩ := World.cells?_some hcs
      obtain ⟨p, rfl, w⟩ := hR _ _ _ hy'
      refine ⟨p, ⟨_, w, hwt _ (List.getElem_mem hy)⟩, fun j hj => ?_⟩
      have h5 := h4 j hj
      rw [Addr.add_add] at h5
      rw [h5]
    have hps : ∀ q, q ≤ len → ∃ ps : List α, ps.length = q ∧ (∀ i p, ps[i]? = some p → ∀ j, j < k → W.cell? (a.add (i * k + j)) = (f p)[j]?) ∧ ∀ p ∈ ps, (∃ d, R p d ∧ ∀ w ∈ d.weights P e, w ∈ (DataW.slice (elems.map (·.1)) (rest.map (·.1))).weights P t) := by
      intro q
      induction q with
      | zero => intro _; exact ⟨[], rfl, by simp, by simp⟩
      | succ q ih =>
        intro hq
        obtain ⟨ps, h1, h2, h3⟩ := ih (by omega)
        obtain ⟨p, w, e1⟩ := each q (by omega)
        refine ⟨ps ++ [p], by simp [h1], fun i r hr => ?_, fun r hr => ?_⟩
        · by_cases hik : i < q
          · rw [List.getElem?_append_left (by omega)] at hr
            exact h2 i r hr
          · have hi := (List.getElem?_eq_some_iff.1 hr).1
            rw [List.length_append, List.length_singleton] at hi
            obtain rfl : i = q := by omega
            rw [List.getElem?_append_right (by omega), h1, Nat.sub_self] at hr
            simp only [List.getElem?_cons_zero, Option.some.injEq] at hr
            subst hr
            exact e1
        · rw [List.mem_append, List.mem_singleton] at hr
          rcases hr with hr | rfl
          · exact h3 r hr
          · exact w
    obtain ⟨ps, h1, h2, h3⟩ := hps len (Nat.le_refl _)
    refine ⟨_, ps, rfl, ⟨_, _, _, rfl, hl, by rw [fl_len hf, h1], ?_⟩, h3⟩
    by_cases h0 : len = 0
    · exact .inl h0
    · have hp0 : ps[0]? = some ps[0] := List.getElem?_eq_getElem (by omega)
      have hu := h2 0 _ hp0 0 hk
      rw [List.getElem?_eq_getElem (by rw [hf]; exact hk)] at hu
      obtain ⟨b, o, s⟩ := a
      have hspot : s = none ∧ ∃ c t fr, W.heap[b]? = some (.cells c t fr) := by
        simp only [Addr.add, Nat.zero_mul, Nat.add_zero, if_true, World.cell?] at hu
        split at hu
        · rename_i c t fr hb'
          refine ⟨?_, c, t, fr, hb'⟩
          cases s with
          | none => rfl
          | some k => simp at hu
        · cases hu
      obtain ⟨rfl, c, t, fr, hb'⟩ := hspot
      refine .inr ⟨b, o, c, t, fr, rfl, hb', fun i hi => ?_⟩
      have hdiv : i / k < len := Nat.div_lt_of_lt_mul (by rw [Nat.mul_comm]; exact hi)
      have hmod : i % k < k := Nat.mod_lt _ hk
      have hpi : ps[i / k]? = some ps[i / k] := List.getElem?_eq_getElem (by omega)
      have q1 := h2 (i / k) _ hpi (i % k) hmod
      have q2 := fl_get hf ps _ _ _ hpi hmod
      have hi' : i / k * k + i % k = i := by rw [Nat.mul_comm]; exact Nat.div_add_mod i k
      rw [hi'] at q1 q2
      rw [q2, ← q1, add_none]
      simp [World.cell?, hb']
/-- How long a slice that came in may be. -/
theorem dlen_reach {t e : TypeId} {d : DataW D} (ht : P.underlying t = some (.slice e)) (h : ∀ w ∈ d.weights P t, w ≤ reachBytes) : dlen d * P.bytesOf e ≤ reachBytes := by
  cases d with
  | slice els sp =>
    have := h ((els.length + sp.length) * P.bytesOf e) (by unfold DataW.weights; rw [ht]; simp)
    show els.length * P.bytesOf e ≤ reachBytes
    exact Nat.le_trans (Nat.mul_le_mul_right _ (Nat.le_add_right _ _)) this
  | _ => simp [dlen]
end
end Go.V
namespace Go.Proofs.Ytmkheogjnlmkdaa
open Go Go.V Go.ChangeShapes Go.WideShapes Go.ChangeAt Go.RowKit
-- 3: int
-- 5: uint8
-- 4: bool
-- 9: string
-- 34: []uint8
-- 62: []int
-- 75: pithlaw8.Op
-- 73: []pithlaw8.Op
theorem cellsOp8 : Try.prog.cellsOf 75 = 8 := by kernel_rfl
theorem cellsBs : Try.prog.cellsOf 34 = 1 := by kernel_rfl
theorem cellsIs : Try.prog.cellsOf 62 = 1 := by kernel_rfl
theorem bytesInt : Try.prog.bytesOf 3 = 8 := by kernel_rfl
theorem i64_both {y : Int} (h : IntR .i64 y) : -9223372036854775808 ≤ y ∧ y < 9223372036854775808 := by
  simp only [IntR, Lit.wf, IntKind.min, IntKind.max, IntKind.signed, IntKind.bits, Bool.and_eq_true, decide_eq_true_eq] at h
  simp at h
  omega
theorem arg_ops {D : Type} {enc : TypeId × Value → D} {W : World} {base : Nat} {sp : Nat → Bool} {held : Bool} {v : Value} {d : DataW D} {qs : List MemPlace} (hv : Value.okWide Try.prog W .any base 73 v) (h : DataW.Trod enc Try.prog W 0 sp held 73 v d qs) (hw : ∀ w ∈ d.weights Try.prog 73, w ≤ reachBytes) : ∃ ys, Cls W.heap v ys := by
  obtain ⟨f, hf⟩ := h
  rw [cells_one Try.underlying73 hv] at hf
  obtain ⟨w, ys, e, h1, h2⟩ := open_slw clC (fun y d => (∀ w ∈ d.weights Try.prog 75, w ≤ reachBytes) → ClOk W.heap y) (by decide) Try.underlying73 cellsOp8 clC_len (fun m cs y hy => by
    obtain ⟨xs, n, _, hx, hl, hlen, hfs⟩ := DataW.trod_struct Try.underlying75 hy
    rw [cellsOp8] at hl
    obtain ⟨c0, c1, c2, c3, c4, c5, c6, c7, rfl⟩ : ∃ c0 c1 c2 c3 c4 c5 c6 c7, cs = [c0, c1, c2, c3, c4, c5, c6, c7] := by
      match cs, hl with
      | [a, b, c, d, e, f, g, h], _ => exact ⟨a, b, c, d, e, f, g, h, rfl⟩
    have hl8 : xs.length = 8 := hlen
    obtain ⟨y0, y1, y2, y3, y4, y5, y6, y7, rfl⟩ : ∃ y0 y1 y2 y3 y4 y5 y6 y7, xs = [y0, y1, y2, y3, y4, y5, y6, y7] := by
      match xs, hl8 with
      | [a, b, c, d, e, f, g, h], _ => exact ⟨a, b, c, d, e, f, g, h, rfl⟩
    have t0 : DataW.trod enc Try.prog W 0 sp held n 3 (([c0, c1, c2, c3, c4, c5, c6, c7].drop 0).take (Try.prog.cellsOf 3)) = some y0 := hfs 0 _ rfl
    have t1 : DataW.trod enc Try.prog W 0 sp held n 3 (([c0, c1, c2, c3, c4, c5, c6, c7].drop 1).take (Try.prog.cellsOf 3)) = some y1 := hfs 1 _ rfl
    have t2 : DataW.trod enc Try.prog W 0 sp held n 3 (([c0, c1, c2, c3, c4, c5, c6, c7].drop 2).take (Try.prog.cellsOf 3)) = some y2 := hfs 2 _ rfl
    have t3 : DataW.trod enc Try.prog W 0 sp held n 9 (([c0, c1, c2, c3, c4, c5, c6, c7].drop 3).take (Try.prog.cellsOf 9)) = some y3 := hfs 3 _ rfl
    have t4 : DataW.trod enc Try.prog W 0 sp held n 9 (([c0, c1, c2, c3, c4, c5, c6, c7].drop 4).take (Try.prog.cellsOf 9)) = some y4 := hfs 4 _ rfl
    have t5 : DataW.trod enc Try.prog W 0 sp held n 34 (([c0, c1, c2, c3, c4, c5, c6, c7].drop 5).take (Try.prog.cellsOf 34)) = some y5 := hfs 5 _ rfl
    have t6 : DataW.trod enc Try.prog W 0 sp held n 62 (([c0, c1, c2, c3, c4, c5, c6, c7].drop 6).take (Try.prog.cellsOf 62)) = some y6 := hfs 6 _ rfl
    have t7 : DataW.trod enc Try.prog W 0 sp held n 4 (([c0, c1, c2, c3, c4, c5, c6, c7].drop 7).take (Try.prog.cellsOf 4)) = some y7 := hfs 7 _ rfl
    rw [cellsInt] at t0 t1 t2
    rw [cellsStr] at t3 t4
    rw [cellsBs] at t5
    rw [cellsIs] at t6
    rw [cellsBool] at t7
    obtain ⟨p0, h0, _, _⟩ := DataW.trod_int Try.underlying3 t0
    obtain ⟨p1, h1, _, r1⟩ := DataW.trod_int Try.underlying3 t1
    obtain ⟨p2, h2, _, r2⟩ := DataW.trod_int Try.underlying3 t2
    obtain ⟨p3, h3, _, _⟩ := DataW.trod_string Try.underlying9 t3
    obtain ⟨p4, h4, _, _⟩ := DataW.trod_string Try.underlying9 t4
    obtain ⟨v5, p5, h5, i5, r5, _⟩ := open_intsl Try.underlying34 Try.underlying5 cellsU8 t5
    obtain ⟨v6, p6, h6, i6, r6, l6⟩ := open_intsl Try.underlying62 Try.underlying3 cellsInt t6
    obtain ⟨p7, h7, _⟩ := trod_bool Try.underlying4 t7
    replace h0 : c0 = .int .i64 p0 := by simpa using h0
    replace h1 : c1 = .int .i64 p1 := by simpa using h1
    replace h2 : c2 = .int .i64 p2 := by simpa using h2
    replace h3 : c3 = .string p3 := by simpa using h3
    replace h4 : c4 = .string p4 := by simpa using h4
    replace h5 : c5 = v5 := by simpa using h5
    replace h6 : c6 = v6 := by simpa using h6
    replace h7 : c7 = .bool p7 := by simpa using h7
    subst h0 h1 h2 h3 h4 h5 h6 h7
    refine ⟨⟨⟨p0, p1, p2, p3, p4, p5, p6, p7⟩, c5, c6⟩, rfl, fun hreach => ⟨i64_both r1, i64_both r2, i5, byt_of r5, i6, fun z hz => i64_both (r6 z hz), ?_⟩⟩
    have h8 : dlen y6.1 * Try.prog.bytesOf 3 ≤ reachBytes := dlen_reach (t := 62) Try.underlying62 fun w hw => hreach w (by
      rw [hx]
      unfold DataW.weights
      rw [Try.underlying75]
      simp only [List.map_cons, List.map_nil, DataW.weightsEach, List.mem_append]
      exact .inr (.inr (.inr (.inr (.inr (.inr (.inl hw)))))))
    rw [bytesInt, l6] at h8
    unfold reachBytes at h8
    show p6.length ≤ 17592186043904
    omega) hf
  obtain rfl : v = w := by simpa using e
  refine ⟨ys, h1, fun y hy => ?_⟩
  obtain ⟨d', hd, hsub⟩ := h2 y hy
  exact hd fun w' hw' => hw w' (hsub w' hw')
end Go.Proofs.Ytmkheogjnlmkdaa
