/- A slice in a block that the call made, anywhere in it: read, kept, appended to. -/
import Derived.Test.YtcgejfmbhpmjfaaVData
set_option linter.unusedSimpArgs false
set_option linter.unusedVariables false
set_option maxRecDepth 20000
namespace Go.V
open Go

/-- A slice that lies, somewhere, in a block that the call made itself (from block B on). -/
def Own2 (H : Heap) (B : Nat) (e : TypeId) (sz : Nat) (v : Value) (vs : List Value) : Prop :=
  (v = .slice none 0 0 ∧ vs = []) ∨
  ∃ g o len cap c, v = .slice (some ⟨g, o, none⟩) len cap ∧ B ≤ g ∧ H[g]? = some (.cells c e (0, 0)) ∧ len ≤ cap ∧ cap ≤ maxLen ∧ o + cap * sz ≤ c.size ∧ vs.length = len * sz ∧ ∀ i, i < len * sz → c[o + i]? = vs[i]?

section
variable {H H' : Heap} {B : Nat} {e : TypeId} {sz : Nat} {v : Value} {vs : List Value}
theorem Own2.nil : Own2 H B e sz (.slice none 0 0) [] := .inl ⟨rfl, rfl⟩
theorem Own2.sl (h : Own2 H B e sz v vs) : Sl H e sz v vs := by
  rcases h with ⟨rfl, rfl⟩ | ⟨g, o, len, cap, c, rfl, _, hg, hlc, _, hcs, hl, ht⟩
  · exact Sl.nil
  · exact Sl.of hg hlc hl ht
theorem Own.own2 (h : Own H B e sz v vs) : Own2 H B e sz v vs := by
  rcases h with h | ⟨g, len, cap, c, rfl, h2, hg, hlc, hcm, hcs, hl, ht⟩
  · exact .inl h
  · refine .inr ⟨g, 0, len, cap, c, rfl, h2, hg, hlc, hcm, by omega, hl, fun i hi => ?_⟩
    rw [← ht, List.getElem?_take, if_pos hi]
    simp
theorem Own2.mono {B' : Nat} (h : Own2 H B e sz v vs) (hb : B' ≤ B) : Own2 H B' e sz v vs := by
  rcases h with h | ⟨g, o, len, cap, c, h1, h2, h3⟩
  · exact .inl h
  · exact .inr ⟨g, o, len, cap, c, h1, by omega, h3⟩
theorem Own2.blk (h : Own2 H B e sz v vs) {g : Nat} (hg : blk v = some g) : B ≤ g ∧ g < H.size ∧ ∃ c, H[g]? = some (.cells c e (0, 0)) := by
  rcases h with ⟨rfl, rfl⟩ | ⟨g', o, len, cap, c, rfl, hB, hgg, _⟩
  · simp [V.blk] at hg
  · simp [V.blk] at hg
    subst hg
    exact ⟨hB, (Array.getElem?_eq_some_iff.1 hgg).1, c, hgg⟩
theorem Own2.keep (h : Own2 H B e sz v vs) (hk : ∀ g, V.blk v = some g → H'[g]? = H[g]?) : Own2 H' B e sz v vs := by
  rcases h with h | ⟨g, o, len, cap, c, rfl, h2, h3, h4⟩
  · exact .inl h
  · exact .inr ⟨g, o, len, cap, c, rfl, h2, by rw [hk g rfl]; exact h3, h4⟩
theorem Own2.ext (h : Own2 H B e sz v vs) (hx : Ext H H') : Own2 H' B e sz v vs := h.keep fun g hg => hx.get g (h.blk hg).2.1
theorem Own2.but (h : Own2 H B e sz v vs) {g : Option Nat} (hx : But g H H') (hne : V.blk v = none ∨ V.blk v ≠ g) : Own2 H' B e sz v vs :=
  h.keep fun g' hg => hx.get g' (h.blk hg).2.1 (by rcases hne with hn | hn <;> simp_all)
theorem Own2.push (h : Own2 H B e sz v vs) (x : Obj) : Own2 (H.push x) B e sz v vs := h.ext (Ext.push x)
/-- x[l:h], the room behind it kept. -/
theorem Own2.sub {g o len cap l h : Nat} (hs : Own2 H B e sz (.slice (some ⟨g, o, none⟩) len cap) vs) (h1 : l ≤ h) (h2 : h ≤ len) :
    Own2 H B e sz (.slice (some ⟨g, o + l * sz, none⟩) (h - l) (cap - l)) ((vs.drop (l * sz)).take ((h - l) * sz)) := by
  rcases hs with ⟨h, _⟩ | ⟨g', o', len', cap', c, he, hB, hg, hlc, hcm, hcs, hl, ht⟩
  · cases h
  · cases he
    have e1 : h * sz ≤ len * sz := Nat.mul_le_mul_right _ h2
    have e2 : (h - l) * sz = h * sz - l * sz := Nat.sub_mul _ _ _
    have e3 : l * sz ≤ h * sz := Nat.mul_le_mul_right _ h1
    have e4 : (cap - l) * sz = cap * sz - l * sz := Nat.sub_mul _ _ _
    have e5 : len * sz ≤ cap * sz := Nat.mul_le_mul_right _ hlc
    refine .inr ⟨g, o + l * sz, h - l, cap - l, c, rfl, hB, hg, by omega, by omega, by omega, by rw [List.length_take, List.length_drop]; omega, fun i hi => ?_⟩
    rw [Nat.add_assoc, ht (l * sz + i) (by omega), List.getElem?_take, if_pos hi, List.getElem?_drop]
/-- x[l:h:m]: the room behind it cut off, the block as it lies where nothing is left. -/
theorem Own2.clip {g o len cap m : Nat} (hs : Own2 H B e sz (.slice (some ⟨g, o, none⟩) len cap) vs) (h1 : len ≤ m) (h2 : m ≤ cap) :
    Own2 H B e sz (.slice (some ⟨g, o, none⟩) len m) vs := by
  rcases hs with ⟨h, _⟩ | ⟨g', o', len', cap', c, he, hB, hg, hlc, hcm, hcs, hl, ht⟩
  · cases h
  · cases he
    have e1 : m * sz ≤ cap * sz := Nat.mul_le_mul_right _ h2
    exact .inr ⟨g, o, len, m, c, rfl, hB, hg, h1, by omega, by omega, hl, ht⟩
end

/-- append onto it. -/
theorem append_own2 {P : Program} {H : Heap} {B : Nat} {t t' ty e : TypeId} {sz by' : Nat} {z : Value} (ht : tyOf P t = some ⟨.sl e, t', ty, z⟩) {ti : TI} (he : tyOf P e = some ti) (hsz : ti.size = sz) (hby : ti.bytes = by') (hz : ti.zero.cells.size = sz) (hs0 : 0 < sz)
    {v y : Value} {xs ys : List Value} (ho : Own2 H B e sz v xs) (hy : Sl H e sz y ys) (h1 : ∀ u ∈ ys, u.oneCell' = true)
    {n : Nat} (hn : xs.length + ys.length = n * sz) (hb : n * by' ≤ 140737488355328) (hm : n ≤ maxLen) (hB : B ≤ H.size) :
    RunS P (sAppend #[t, t] #[v, y]) H (fun v' H' => Own2 H' B e sz v' (xs ++ ys) ∧ Grow v H v' H') := by
  unfold sAppend
  intro w hw
  subst hw
  obtain ⟨⟨d, hd, hk⟩, _⟩ := tyOf_ok P t _ ht
  obtain ⟨_, inf, hi, hi1, hi2, hi3⟩ := tyOf_ok P e _ he
  rw [V.K.of_sl hk] at hd
  obtain ⟨a, m, c, rfl, hmc, hl, hcell⟩ := hy
  by_cases hm0 : m = 0
  · -- nothing is appended
    subst hm0
    have hys : ys = [] := List.eq_nil_of_length_eq_zero (by simpa using hl)
    subst hys
    have hfc : (Builtin.firstCells inf.size 0 (.slice a 0 c)).run P w = .ok #[] w := by
      cases a with
      | none => simp [Builtin.firstCells]
      | some a => simp [Builtin.firstCells, loadCells, loadCellsFrom]
    have hst : ∀ ad : Addr, (storeCells ad ([] : List Value)).run P w = .ok () w := fun ad => by simp [storeCells]
    refine ⟨v, w, ?_, Same.refl _, by simpa using ho, Grow.refl _ _⟩
    rcases ho with ⟨rfl, _⟩ | ⟨g, o, len, cap, cc, rfl, _, hg, hlc, _⟩
    · simp [Builtin.append_, run_underlying hd, sizeOf, typeInfo, hi, Builtin.lenOf, hfc, hst]
    · simp [Builtin.append_, run_underlying hd, sizeOf, typeInfo, hi, Builtin.lenOf, hlc, hfc, hst]
  rcases hcell with h0 | ⟨b, o, c', _, fr, rfl, hbb, hg⟩
  · exact absurd h0 hm0
  have hnews : ∀ j u, ys[j]? = some u → w.cell? ((⟨b, o, none⟩ : Addr).add j) = some u := by
    intro j u hu
    rw [add_none, cell?_hget, hget, hbb]
    have hj : j < ys.length := (List.getElem?_eq_some_iff.1 hu).1
    rw [← hu]
    exact hg j (by omega)
  have hl' : ys.length = m * inf.size := by rw [hi1, hsz]; exact hl
  have hzz : (ti.zero).cells.size = sz := hz
  have mx : maxLen ≤ 9223372036854775807 := by unfold maxLen; omega
  have grown : ∀ (xs' : List Value) (nv old : Nat), xs'.length = nv * sz → nv + m = n →
      ∀ k, k = grownCap w (nv + m) old e → Own2 ((w.drew.alloc (.cells (xs'.toArray ++ ys.toArray ++ Builtin.zeroCells ti.zero.cells (k - (nv + m))) e)).heap) B e sz (.slice (some ⟨w.heap.size, 0, none⟩) (nv + m) k) (xs' ++ ys) := by
    intro xs' nv old hx hnm k hk
    subst hk
    have hge := grownCap_ge w (nv + m) old e
    refine .inr ⟨w.heap.size, 0, _, _, _, rfl, hB, heap_alloc_new w.drew _, hge, grownCap_le_maxLen w (nv + m) old e (by omega), ?_, ?_, fun i hi => ?_⟩
    · have : grownCap w (nv + m) old e * sz = nv * sz + m * sz + (grownCap w (nv + m) old e - (nv + m)) * sz := by
        rw [← Nat.add_mul, ← Nat.add_mul]; congr 1; omega
      simp only [Array.size_append, List.size_toArray, size_zeroCells, hzz, hx, hl]
      omega
    · rw [List.length_append, hx, hl, Nat.add_mul]
    · rw [Nat.add_mul] at hi
      rw [Nat.zero_add, Array.getElem?_append_left (by simp; omega)]
      simp [hx, hl]
  have but' : ∀ (x : Obj) (u : Option Nat), But u w.heap (w.drew.alloc x).heap := fun x u => ⟨by simp, fun k hk _ => heap_alloc_old w.drew _ k hk⟩
  rcases ho with ⟨rfl, rfl⟩ | ⟨g, og, len, cap, cc, rfl, hBg, hgg, hlc, hcm, hcs, hxl, htk⟩
  · have hnm : m = n := by
      have : m * sz = n * sz := by rw [← hl]; simpa using hn
      exact Nat.eq_of_mul_eq_mul_right hs0 this
    have hbm : m * inf.bytes ≤ 281474976710656 := by rw [hi2, hby, hnm]; omega
    have hr := run_append_nil (P := P) w t 0 e inf ti.zero hd hi hi3 ⟨b, o, none⟩ m c ys hl' hnews (by omega) (by omega) hbm
    have hgr := grown [] 0 0 (by simp) (by omega) _ rfl
    simp only [Nat.zero_add, List.nil_append, Array.empty_append] at hgr
    refine ⟨_, _, hr, ⟨rfl, rfl, rfl, Nat.le_succ _⟩, by simpa using hgr, ⟨but' _ _, .inr ⟨_, rfl, Nat.le_refl _⟩⟩⟩
  · have hnm : len + m = n := by
      have : (len + m) * sz = n * sz := by rw [Nat.add_mul, ← hxl, ← hl]; exact hn
      exact Nat.eq_of_mul_eq_mul_right hs0 this
    by_cases hroom : len + m ≤ cap
    · have e1 : (len + m) * sz ≤ cap * sz := Nat.mul_le_mul_right _ hroom
      rw [Nat.add_mul] at e1
      have hfit : og + len * sz + ys.length ≤ cc.size := by omega
      have hcan : hcan w.heap g (og + len * sz) ys.length := ⟨cc, e, (0, 0), hgg, hfit, by simp⟩
      have hst := run_storeCells_put (P := P) (w := w) hcan h1
      have hf := run_firstCells_some (P := P) w inf.size m ⟨b, o, none⟩ m c ys hl' hnews
      have hadd : (⟨g, og, none⟩ : Addr).add (len * inf.size) = ⟨g, og + len * sz, none⟩ := by rw [add_none, hi1, hsz]
      refine ⟨.slice (some ⟨g, og, none⟩) (len + m) cap, { w with heap := hput w.heap g (og + len * sz) ys }, ?_, ⟨rfl, rfl, rfl, Nat.le_refl _⟩, .inr ⟨g, og, len + m, cap, _, rfl, hBg, hput_same hgg, hroom, hcm, by rw [cput_size hfit]; exact hcs, ?_, fun i hi' => ?_⟩, ⟨⟨by rw [hput_size]; exact Nat.le_refl _, fun b _ hne => hput_other _ _ _ _ (fun e => hne (by rw [e]; rfl))⟩, .inl rfl⟩⟩
      · simp [Builtin.append_, run_underlying hd, sizeOf, typeInfo, hi, Builtin.lenOf, hroom, hf, hadd, hst]
      · rw [List.length_append, hxl, hl, Nat.add_mul]
      · rw [Nat.add_mul] at hi'
        rw [List.getElem?_append, hxl]
        by_cases h2 : i < len * sz
        · rw [if_pos h2, cput_get_out hfit (.inl (by omega)), htk i h2]
        · rw [if_neg h2, show og + i = og + len * sz + (i - len * sz) by omega, cput_get_in hfit (by omega)]
    · have holds : ∀ j u, xs[j]? = some u → w.cell? ((⟨g, og, none⟩ : Addr).add j) = some u := by
        intro j u hu
        have hj : j < xs.length := (List.getElem?_eq_some_iff.1 hu).1
        rw [add_none, cell?_hget, hget, hgg, ← hu]
        exact htk j (by omega)
      have hr := run_append_grow (P := P) w t 0 e inf ti.zero hd hi hi3 ⟨g, og, none⟩ len cap xs (by rw [hi1, hsz]; exact hxl) holds ⟨b, o, none⟩ m c ys hl' hnews (by omega) (by omega)
        (growslice_fits (by omega) (by rw [hi2, hby, hnm]; exact hb))
      have hgr := grown xs len cap hxl hnm _ rfl
      exact ⟨_, _, hr, ⟨rfl, rfl, rfl, Nat.le_succ _⟩, hgr, ⟨but' _ _, .inr ⟨_, rfl, Nat.le_refl _⟩⟩⟩
end Go.V
