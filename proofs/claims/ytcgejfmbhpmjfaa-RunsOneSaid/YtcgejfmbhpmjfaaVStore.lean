/- Arcs stored over arcs of its own; a slice of its own cut short; two arcs compared. -/
import Derived.Test.YtcgejfmbhpmjfaaVPair
import Derived.Laws.StructEq
import Derived.Laws.AppendOwn
import Derived.KernelRfl
set_option linter.unusedSimpArgs false
set_option linter.unusedVariables false
set_option maxRecDepth 20000
namespace Go.V
open Go
theorem But.trans {g : Option Nat} {H H' H'' : Heap} (h : But g H H') (k : But g H' H'') : But g H H'' :=
  ⟨Nat.le_trans h.size k.size, fun b hb hne => (k.get b (Nat.lt_of_lt_of_le hb h.size) hne).trans (h.get b hb hne)⟩
theorem Own.put {H : Heap} {B : Nat} {e : TypeId} {sz g len cap : Nat} {vs : List Value} (h : Own H B e sz (.slice (some ⟨g, 0, none⟩) len cap) vs) {o : Nat} {xs : List Value} (ho : o + xs.length ≤ len * sz) :
    hcan H g o xs.length ∧ Own (hput H g o xs) B e sz (.slice (some ⟨g, 0, none⟩) len cap) (vs.take o ++ xs ++ vs.drop (o + xs.length)) ∧ But (some g) H (hput H g o xs) := by
  rcases h with ⟨h, _⟩ | ⟨g', len', cap', c, he, hB, hg, hlc, hcm, hcs, hl, ht⟩
  · cases h
  · cases he
    have hmul : len * sz ≤ cap * sz := Nat.mul_le_mul_right _ hlc
    have hfit : o + xs.length ≤ c.size := by omega
    refine ⟨⟨c, e, (0, 0), hg, hfit, by simp⟩, .inr ⟨g, len, cap, _, rfl, hB, hput_same hg, hlc, hcm, by rw [cput_size hfit]; exact hcs, ?_, ?_⟩, ⟨by rw [hput_size]; exact Nat.le_refl _, fun b _ hne => hput_other _ _ _ _ (fun e => hne (by rw [e]))⟩⟩
    · simp only [List.length_append, List.length_take, List.length_drop]; omega
    · subst ht
      apply List.ext_getElem?
      intro k
      rw [List.getElem?_take, List.append_assoc, List.getElem?_append, List.length_take, List.length_take, Array.length_toList, Nat.min_eq_left (show o ≤ min (len * sz) c.size by omega)]
      by_cases hk : k < len * sz
      · rw [if_pos hk, Array.getElem?_toList]
        by_cases h1 : k < o
        · rw [if_pos h1, cput_get_out hfit (.inl h1), List.getElem?_take, if_pos h1, List.getElem?_take, if_pos hk, Array.getElem?_toList]
        · rw [if_neg h1, List.getElem?_append]
          by_cases h2 : k - o < xs.length
          · rw [if_pos h2, ← cput_get_in hfit h2, show o + (k - o) = k by omega]
          · rw [if_neg h2, cput_get_out hfit (.inr (by omega)), List.getElem?_drop, show o + xs.length + (k - o - xs.length) = k by omega, List.getElem?_take, if_pos hk, Array.getElem?_toList]
      · rw [if_neg hk, if_neg (by omega), List.getElem?_append_right (by omega), List.getElem?_eq_none]
        simp only [List.length_drop, List.length_take, Array.length_toList]
        omega
theorem Own.cut {H : Heap} {B : Nat} {e : TypeId} {sz g len cap : Nat} {vs : List Value} (h : Own H B e sz (.slice (some ⟨g, 0, none⟩) len cap) vs) {n : Nat} (hn : n ≤ len) :
    Own H B e sz (.slice (some ⟨g, 0, none⟩) n cap) (vs.take (n * sz)) := by
  rcases h with ⟨h, _⟩ | ⟨g', len', cap', c, he, hB, hg, hlc, hcm, hcs, hl, ht⟩
  · cases h
  · cases he
    have hmul : n * sz ≤ len * sz := Nat.mul_le_mul_right _ hn
    refine .inr ⟨g, n, cap, c, rfl, hB, hg, by omega, hcm, hcs, by rw [List.length_take]; omega, ?_⟩
    rw [← ht, List.take_take, Nat.min_eq_left hmul]
/-- clear(x[d:]), x of its own. -/
theorem clear_own {P : Program} {H : Heap} {B : Nat} {t t' ty e : TypeId} {sz : Nat} {z : Value} (ht : tyOf P t = some ⟨.sl e, t', ty, z⟩) {ti : TI} (he : tyOf P e = some ti) (hz : ti.zero.cells.size = sz) (h1 : ti.zero.cells.all Value.oneCell' = true)
    {g len cap d n c : Nat} {xs : List Value} (ho : Own H B e sz (.slice (some ⟨g, 0, none⟩) len cap) xs) (hn : 0 < n) (hd : d + n = len) :
    RunS P (sClear #[t] #[.slice (some ⟨g, d * sz, none⟩) n c]) H (fun _ H' => (∃ zs, Own H' B e sz (.slice (some ⟨g, 0, none⟩) len cap) (xs.take (d * sz) ++ zs)) ∧ But (some g) H H') := by
  unfold sClear
  intro w hw
  subst hw
  obtain ⟨⟨dd, hdd, hk⟩, _⟩ := tyOf_ok P t _ ht
  obtain ⟨_, inf, hi, hi1, hi2, hi3⟩ := tyOf_ok P e _ he
  rw [V.K.of_sl hk] at hdd
  have hzl : (Builtin.zeroCells ti.zero.cells n).toList.length = n * sz := by rw [Array.length_toList, size_zeroCells, hz]
  have hpq := ho.put (o := d * sz) (xs := (Builtin.zeroCells ti.zero.cells n).toList) (by rw [hzl, ← Nat.add_mul, hd]; exact Nat.le_refl _)
  obtain ⟨p1, p2, p3⟩ := hpq
  have hone : ∀ v ∈ (Builtin.zeroCells ti.zero.cells n).toList, v.oneCell' = true := by
    intro v hv
    rw [Array.mem_toList_iff] at hv
    obtain ⟨i, hi', rfl⟩ := Array.mem_iff_getElem.1 hv
    rw [size_zeroCells] at hi'
    have hpos : 0 < ti.zero.cells.size := by
      rcases Nat.eq_zero_or_pos ti.zero.cells.size with h | h
      · rw [h] at hi'; omega
      · exact h
    have hm : i % ti.zero.cells.size < ti.zero.cells.size := Nat.mod_lt _ hpos
    simp only [Builtin.zeroCells, Array.getElem_map, Array.getElem_range]
    rw [getElem!_pos ti.zero.cells _ hm]
    exact (Array.all_eq_true.1 h1) _ hm
  refine ⟨.tuple #[], { w with heap := hput w.heap g (d * sz) (Builtin.zeroCells ti.zero.cells n).toList }, ?_, ⟨rfl, rfl, rfl, Nat.le_refl _⟩, ⟨(Builtin.zeroCells ti.zero.cells n).toList, ?_⟩, p3⟩
  · have hn' : n ≠ 0 := by omega
    obtain ⟨k, rfl⟩ : ∃ k, n = k + 1 := ⟨n - 1, by omega⟩
    simp [Builtin.clear_, run_underlying hdd, zeroValue, typeInfo, hi, hi3, run_storeCells_put p1 hone]
  · have hx := ho.sl.length
    rw [hzl, ← Nat.add_mul, hd, ← hx, List.drop_length, List.append_nil] at p2
    exact p2
end Go.V
namespace Go.Proofs.Ytcgejfmbhpmjfaa
open Go Go.V
-- 3: int
-- 24: pith/api.Pair
-- 22: []api.Pair
theorem cp_take : ∀ (ps : List Pr) (n : Nat), (cp ps).take (n * 2) = cp (ps.take n)
  | [], n => by simp [cp]
  | _ :: _, 0 => by simp [cp]
  | p :: ps, n + 1 => by
    have ih := cp_take ps n
    have e : ∀ (q : Pr) (qs : List Pr), cp (q :: qs) = .int .i64 q.1 :: .int .i64 q.2 :: cp qs := fun _ _ => rfl
    rw [List.take_succ_cons, e, e, show (n + 1) * 2 = n * 2 + 1 + 1 by omega, List.take_succ_cons, List.take_succ_cons, ih]
theorem cp_drop : ∀ (ps : List Pr) (n : Nat), (cp ps).drop (n * 2) = cp (ps.drop n)
  | [], n => by simp [cp]
  | _ :: _, 0 => by simp [cp]
  | p :: ps, n + 1 => by
    have ih := cp_drop ps n
    have e : ∀ (q : Pr) (qs : List Pr), cp (q :: qs) = .int .i64 q.1 :: .int .i64 q.2 :: cp qs := fun _ _ => rfl
    rw [List.drop_succ_cons, e, show (n + 1) * 2 = n * 2 + 1 + 1 by omega, List.drop_succ_cons, List.drop_succ_cons, ih]
theorem cp_set (ps : List Pr) {i : Nat} (h : i < ps.length) (q : Pr) : (cp ps).take (i * 2) ++ [.int .i64 q.1, .int .i64 q.2] ++ (cp ps).drop (i * 2 + [Value.int .i64 q.1, .int .i64 q.2].length) = cp (ps.set i q) := by
  rw [show i * 2 + [Value.int .i64 q.1, .int .i64 q.2].length = (i + 1) * 2 by simp; omega, cp_take, cp_drop, List.set_eq_take_append_cons_drop, if_pos h, cp_app]
  simp [cp]
theorem cp_nil {ps : List Pr} (h : cp ps = []) : ps = [] := List.eq_nil_of_length_eq_zero (by have := cp_len ps; rw [h] at this; simp at this; omega)
theorem prs_get0 {H : Heap} {b len cap : Nat} {ps : List Pr} (h : Prs H (.slice (some ⟨b, 0, none⟩) len cap) ps) {i : Nat} (hi : i < ps.length) :
    hget H b (i * 2) = some (.int .i64 (ps.getD i (0, 0)).1) ∧ hget H b (i * 2 + 1) = some (.int .i64 (ps.getD i (0, 0)).2) := by
  have := prs_get h hi
  rwa [Nat.zero_add] at this
theorem prs_own {H : Heap} {B : Nat} {v : Value} {ps : List Pr} (h : Own H B 24 2 v (cp ps)) : Prs H v ps := h.sl
/-- v[i] = q. -/
theorem prs_store {H : Heap} {B g len cap : Nat} {ps : List Pr} (h : Own H B 24 2 (.slice (some ⟨g, 0, none⟩) len cap) (cp ps)) {i : Nat} (hi : i < ps.length) (q : Pr) :
    hcan H g (i * 2) 2 ∧ Own (hput H g (i * 2) [.int .i64 q.1, .int .i64 q.2]) B 24 2 (.slice (some ⟨g, 0, none⟩) len cap) (cp (ps.set i q)) ∧ But (some g) H (hput H g (i * 2) [.int .i64 q.1, .int .i64 q.2]) := by
  have hl := h.sl.length
  rw [cp_len] at hl
  obtain ⟨h1, h2, h3⟩ := h.put (o := i * 2) (xs := [.int .i64 q.1, .int .i64 q.2]) (by simp; omega)
  rw [cp_set ps hi] at h2
  exact ⟨h1, h2, h3⟩
theorem own_len {H : Heap} {B len cap : Nat} {a : Option Addr} {ps : List Pr} (h : Own H B 24 2 (.slice a len cap) (cp ps)) : len = ps.length := by
  have hl := h.sl.length
  rw [cp_len] at hl
  omega
theorem own_form {H : Heap} {B : Nat} {v : Value} {ps : List Pr} (h : Own H B 24 2 v (cp ps)) : (v = .slice none 0 0 ∧ ps = []) ∨ ∃ g cap, v = .slice (some ⟨g, 0, none⟩) ps.length cap ∧ ps.length ≤ cap := by
  rcases h with ⟨h1, h2⟩ | ⟨g, len, cap, c, rfl, _, _, hlc, _, _, hl, _⟩
  · exact .inl ⟨h1, cp_nil h2⟩
  · rw [cp_len] at hl
    have : ps.length = len := by omega
    exact .inr ⟨g, cap, by rw [this], by omega⟩

theorem equalIn_pr (w : World) (d : Nat) (p q : Pr) : (Op.equalIn (d + 2) 24 (pv p) (pv q)).run Try.prog w = .ok (decide (p = q)) w := by
  have hu : Try.prog.underlying 24 = some (.struct (Try.prog.fieldsOf 24)) := by kernel_rfl
  have he : Try.prog.underlying 3 = some (.int .i64) := by kernel_rfl
  have hs : Try.prog.stoodInHeld 24 = false := by kernel_rfl
  obtain ⟨f1, f2, hf, a1, a2, a3, b1, b2, b3⟩ : ∃ f1 f2 : Field, (Try.prog.fieldsOf 24).toList = [f1, f2] ∧ f1.type = 3 ∧ f1.offset = 0 ∧ f1.name ≠ "_" ∧ f2.type = 3 ∧ f2.offset = 1 ∧ f2.name ≠ "_" :=
    by
      have hf : ((Try.prog.fieldsOf 24).toList.map fun f => (f.type, f.offset, f.name == "_")) = [(3, 0, false), (3, 1, false)] := by kernel_rfl
      rcases h0 : (Try.prog.fieldsOf 24).toList with _ | ⟨f1, _ | ⟨f2, _ | ⟨f3, r⟩⟩⟩
      · rw [h0] at hf; cases hf
      · rw [h0] at hf; simp at hf
      · rw [h0] at hf
        simp only [List.map_cons, List.map_nil, List.cons.injEq, Prod.mk.injEq, and_true] at hf
        exact ⟨f1, f2, rfl, hf.1.1, hf.1.2.1, by simpa using hf.1.2.2, hf.2.1, hf.2.2.1, by simpa using hf.2.2.2⟩
      · rw [h0] at hf; simp at hf
  unfold pv
  rw [run_equalIn_struct w (d + 1) 24 _ _ hu hs, hf]
  have hp : ∀ (a b : Value) (o : Nat) (u : Value), (#[a, b] : Array Value)[o]? = some u → (part 3 #[a, b] o).run Try.prog w = .ok u w := by
    intro a b o u hu
    simp [part, isAgg, run_underlying he, hu]
  have hp0 := fun (a b : Value) => hp a b 0 a rfl
  have hp1 := fun (a b : Value) => hp a b 1 b rfl
  simp only [Op.eqFields, a1, a2, b1, b2, if_pos a3, if_pos b3, Sem.run_bind, hp0, hp1, Result.andThen_ok, run_equalIn_int w d 3 .i64 .i64 _ _ he]
  by_cases q1 : p.1 = q.1
  · by_cases q2 : p.2 = q.2
    · have : p = q := Prod.ext q1 q2
      simp [this, hp1, run_equalIn_int w d 3 .i64 .i64 _ _ he]
    · have : p ≠ q := fun h => q2 (by rw [h])
      simp [q1, q2, this, hp1, run_equalIn_int w d 3 .i64 .i64 _ _ he]
  · have : p ≠ q := fun h => q1 (by rw [h])
    simp [q1, this]
theorem eq_pr (x y : Operand) (p q : Pr) (H : Heap) : RunS Try.prog (sBinOp .eql 24 x y (pv p) (pv q)) H (fun v H' => v = .bool (decide (p = q)) ∧ H = H') := by
  intro w hw
  have hg : Try.prog.eqGuardType Try.prog.depth 24 = false := by kernel_rfl
  refine ⟨_, w, ?_, Same.refl _, rfl, hw.symm⟩
  unfold sBinOp
  rw [Sem.run_bind]
  unfold pv
  rw [run_eqGuard_agg _ _ _ _ _ _ _ hg, Result.andThen_ok, run_eql_struct]
  have := equalIn_pr w 9998 p q
  unfold pv at this
  rw [this, Result.andThen_ok]
theorem ne_pr (x y : Operand) (p q : Pr) (H : Heap) : RunS Try.prog (sBinOp .neq 24 x y (pv p) (pv q)) H (fun v H' => v = .bool (!decide (p = q)) ∧ H = H') := by
  intro w hw
  have hg : Try.prog.eqGuardType Try.prog.depth 24 = false := by kernel_rfl
  refine ⟨_, w, ?_, Same.refl _, rfl, hw.symm⟩
  unfold sBinOp
  rw [Sem.run_bind]
  unfold pv
  rw [run_eqGuard_agg _ _ _ _ _ _ _ hg, Result.andThen_ok, run_neq_struct]
  have := equalIn_pr w 9998 p q
  unfold pv at this
  rw [this, Result.andThen_ok]
end Go.Proofs.Ytcgejfmbhpmjfaa
