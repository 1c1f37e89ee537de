/- Both decoders of arcs answer the arcs whose payload the bytes are. -/
import Derived.Test.YtcgejfmbhpmjfaaVEncR
import Derived.Test.YtcgejfmbhpmjfaaVNum
set_option linter.unusedSimpArgs false
set_option linter.unusedVariables false
set_option maxRecDepth 20000
namespace Go.Proofs.Ytcgejfmbhpmjfaa
open Go Go.V
-- 50: pith/pithref11.in
-- 20: pith/runs.Encode
-- 21: pith/pithref11.Encode
-- 33: pith/runs.Decode
-- 53: pith/pithref11.Decode
-- 59: pith/varint.NewReader
-- 60: (*pith/varint.Reader).Int
-- 61: (*pith/varint.Reader).Err
-- 62: bytes.Equal
-- 22: pith/pithref.SameBytes
-- 5: uint8
-- 30: []uint8
-- 3: int
-- 9: string
-- 24: pith/api.Pair
-- 22: []api.Pair
-- 113: pith/varint.Reader

theorem F62 (v u : Value) (xs ys : List Int) (H : Heap) (hv : Ints H 5 .u8 v xs) (hu : Ints H 5 .u8 u ys) (hx : Byt xs) (hy : Byt ys) :
    Fun Try.prog 62 #[v, u] H (fun r H' => r = .bool (decide (xs = ys)) ∧ H = H') := by
  refine fun_of mixed (args := [v, u]) Try.func62 Try.ntmps62 b62 r62 rfl ?_
  obtain ⟨a, c, rfl⟩ := hv.form
  obtain ⟨a', c', rfl⟩ := hu.form
  simp only [go_sem, ↓reduceIte, Nat.reduceEqDiff, Nat.reduceLeDiff, Nat.reduceAdd, Nat.reduceMul, Nat.reduceSub, Nat.reduceBEq, Nat.reduceGT, Nat.reduceLT, Int.reduceLE, Int.reduceLT, Int.reduceNeg, reduceCtorEq]
  refine RunI.by (conv_str hv ty30 ty9 ty5) ?_
  rintro _ _ ⟨rfl, rfl⟩
  simp only [go_sem, ↓reduceIte, Nat.reduceEqDiff, Nat.reduceLeDiff, Nat.reduceAdd, Nat.reduceMul, Nat.reduceSub, Nat.reduceBEq, Nat.reduceGT, Nat.reduceLT, Int.reduceLE, Int.reduceLT, Int.reduceNeg, reduceCtorEq]
  refine RunI.by (conv_str hu ty30 ty9 ty5) ?_
  rintro _ _ ⟨rfl, rfl⟩
  simp only [go_sem, ↓reduceIte, Nat.reduceEqDiff, Nat.reduceLeDiff, Nat.reduceAdd, Nat.reduceMul, Nat.reduceSub, Nat.reduceBEq, Nat.reduceGT, Nat.reduceLT, Int.reduceLE, Int.reduceLT, Int.reduceNeg, reduceCtorEq]
  rw [bstr_beq hx hy]

/-! ### The numbers of a payload -/
def dU (ps : List Pr) (j : Nat) : Int := (ps.getD j (0, 0)).1 - (lastI ps j).1
def dV (ps : List Pr) (j : Nat) : Int := if (j == 0) = true ∨ (lastI ps j).1 < (ps.getD j (0, 0)).1 then (ps.getD j (0, 0)).2 else (ps.getD j (0, 0)).2 - (lastI ps j).2 - 1
def numsI (ps : List Pr) : List Int := (ps.length : Int) :: (List.range ps.length).flatMap fun j => [dU ps j, dV ps j]
theorem nums_len (ps : List Pr) : (numsI ps).length = 2 * ps.length + 1 := by
  have : ∀ n, ((List.range n).flatMap fun j => [dU ps j, dV ps j]).length = 2 * n := by
    intro n
    induction n with
    | zero => rfl
    | succ n ih => rw [List.range_succ, List.flatMap_append, List.length_append, ih]; simp; omega
  simp [numsI, this]
theorem nums_get (ps : List Pr) {j : Nat} (h : j < ps.length) : (numsI ps).getD (2 * j + 1) 0 = dU ps j ∧ (numsI ps).getD (2 * j + 2) 0 = dV ps j := by
  have key : ∀ n, j < n → ((List.range n).flatMap fun j => [dU ps j, dV ps j]).getD (2 * j) 0 = dU ps j ∧ ((List.range n).flatMap fun j => [dU ps j, dV ps j]).getD (2 * j + 1) 0 = dV ps j := by
    intro n
    induction n with
    | zero => omega
    | succ n ih =>
      intro hj
      have hl : ∀ n, ((List.range n).flatMap fun j => [dU ps j, dV ps j]).length = 2 * n := by
        intro n
        induction n with
        | zero => rfl
        | succ n ih => rw [List.range_succ, List.flatMap_append, List.length_append, ih]; simp; omega
      rw [List.range_succ, List.flatMap_append]
      by_cases hjn : j = n
      · subst hjn
        simp only [List.getD_eq_getElem?_getD]
        rw [List.getElem?_append_right (by rw [hl]; omega), List.getElem?_append_right (by rw [hl]; omega), hl]
        simp
      · have hi := ih (by omega)
        simp only [List.getD_eq_getElem?_getD] at hi ⊢
        rw [List.getElem?_append_left (by rw [hl]; omega), List.getElem?_append_left (by rw [hl]; omega)]
        exact hi
  obtain ⟨k1, k2⟩ := key _ h
  exact ⟨k1, k2⟩
theorem fm_congr {α β : Type} {f g : α → List β} : ∀ {l : List α}, (∀ a ∈ l, f a = g a) → l.flatMap f = l.flatMap g
  | [], _ => rfl
  | a :: l, h => by rw [List.flatMap_cons, List.flatMap_cons, h a (by simp), fm_congr fun b hb => h b (by simp [hb])]
theorem nums_bytes (ps : List Pr) : (numsI ps).flatMap vput = vput ps.length ++ bodyI ps ps.length := by
  rw [numsI, List.flatMap_cons]
  congr 1
  rw [bodyI, List.flatMap_assoc]
  apply fm_congr
  intro j _
  simp only [List.flatMap_cons, List.flatMap_nil, List.append_nil, stepB, dU, dV]
  split <;> rfl
/-- What a payload's arcs are like. -/
theorem enc_some {ps : List Pr} {ys : List Int} (h : encR ps = (some ys, 0)) : 0 < ps.length ∧ ps.length ≤ 100 ∧ (∀ j, j < ps.length → 0 ≤ (ps.getD j (0, 0)).1 ∧ (ps.getD j (0, 0)).1 < 16777216 ∧ 0 ≤ (ps.getD j (0, 0)).2 ∧ (ps.getD j (0, 0)).2 < 16777216) ∧ riseP ps = true ∧ ys = (numsI ps).flatMap vput := by
  unfold encR at h
  split at h
  · cases h
  · rename_i h1
    split at h
    · cases h
    · rename_i h2
      split at h
      · cases h
      · rename_i h3
        refine ⟨by omega, by omega, fun j hj => ?_, by simpa using h3, ?_⟩
        · have h4 : ps.all okP = true := by simpa using h2
          have := List.all_eq_true.1 h4 _ (mem_getD hj (0, 0))
          simp only [okP, okV, Bool.and_eq_true, decide_eq_true_eq] at this
          omega
        · rw [nums_bytes]
          have : vput ps.length ++ bodyI ps ps.length = ys := by simpa using h
          exact this.symm
theorem enc_nums {ps : List Pr} {ys : List Int} (h : encR ps = (some ys, 0)) : ∀ x ∈ numsI ps, 0 ≤ x ∧ x < 16777216 := by
  obtain ⟨h1, h2, h3, h4, _⟩ := enc_some h
  intro x hx
  rw [numsI] at hx
  rcases List.mem_cons.1 hx with rfl | hx
  · omega
  · obtain ⟨j, hj, hx⟩ := List.mem_flatMap.1 hx
    have hj := List.mem_range.1 hj
    have a := h3 j hj
    have b : 0 ≤ (lastI ps j).1 ∧ (lastI ps j).1 ≤ (ps.getD j (0, 0)).1 ∧ 0 ≤ (lastI ps j).2 ∧ ((j == 0) = true ∨ (lastI ps j).1 < (ps.getD j (0, 0)).1 ∨ (lastI ps j).2 < (ps.getD j (0, 0)).2) := by
      by_cases hj0 : j = 0
      · have : lastI ps j = (0, 0) := by unfold lastI; rw [if_pos hj0]
        rw [this]
        exact ⟨by decide, a.1, by decide, .inl (by simp [hj0])⟩
      · have e : lastI ps j = ps.getD (j - 1) (0, 0) := by unfold lastI; rw [if_neg hj0]
        have c := h3 (j - 1) (by omega)
        have r := riseP_get h4 (i := j - 1) (by omega)
        rw [show j - 1 + 1 = j by omega] at r
        unfold ltP at r
        rw [decide_eq_true_eq] at r
        rw [e]
        omega
    simp only [List.mem_cons, List.not_mem_nil, or_false] at hx
    rcases hx with rfl | rfl
    · unfold dU; omega
    · unfold dV
      split
      · omega
      · rename_i hn
        have : ¬ (j == 0) = true ∧ ¬ (lastI ps j).1 < (ps.getD j (0, 0)).1 := ⟨fun h => hn (.inl h), fun h => hn (.inr h)⟩
        rcases b.2.2.2 with h | h | h
        · exact absurd h this.1
        · exact absurd h this.2
        · omega
/-- A payload's numbers are read back. -/
theorem enc_read {ps : List Pr} {ys : List Int} (h : encR ps = (some ys, 0)) {k : Nat} (hk : k < 2 * ps.length + 1) : (rdN ys k).2.2 = 0 ∧ rval ys (rdN ys k).2 = (numsI ps).getD k 0 := by
  obtain ⟨_, _, _, _, rfl⟩ := enc_some h
  exact rdN_get (numsI ps) (fun x hx => by have := enc_nums h x hx; omega) (by rw [nums_len]; omega)
theorem enc_end {ps : List Pr} {ys : List Int} (h : encR ps = (some ys, 0)) : (rdN ys (2 * ps.length + 1)).2.2 = 0 := by
  obtain ⟨_, _, _, _, rfl⟩ := enc_some h
  rw [rdN_put (numsI ps) (fun x hx => by have := enc_nums h x hx; omega) _ (by rw [nums_len]; omega)]
theorem enc_byt {ps : List Pr} {ys : List Int} (h : encR ps = (some ys, 0)) : Byt ys := by
  obtain ⟨_, _, _, _, rfl⟩ := enc_some h
  intro x hx
  obtain ⟨y, _, hy⟩ := List.mem_flatMap.1 hx
  exact vput_wf y x hy
/-- The i-th arc, out of what is read. -/
def arcOf (acc : List Pr) (u v : Int) : Pr := if acc.length = 0 then (u, v) else ((acc.getD (acc.length - 1) (0, 0)).1 + u, if u = 0 then v + ((acc.getD (acc.length - 1) (0, 0)).2 + 1) else v)
theorem enc_arc {ps : List Pr} {ys : List Int} (h : encR ps = (some ys, 0)) {i : Nat} (hi : i < ps.length) : arcOf (ps.take i) (dU ps i) (dV ps i) = ps.getD i (0, 0) := by
  obtain ⟨h1, h2, h3, h4, _⟩ := enc_some h
  have hl : (ps.take i).length = i := by simp; omega
  unfold arcOf
  rw [hl]
  by_cases hi0 : i = 0
  · rw [if_pos hi0]
    have : lastI ps i = (0, 0) := by unfold lastI; rw [if_pos hi0]
    unfold dU dV
    rw [this, if_pos (.inl (by simp [hi0]))]
    simp
  · rw [if_neg hi0]
    have e : lastI ps i = ps.getD (i - 1) (0, 0) := by unfold lastI; rw [if_neg hi0]
    have e2 : (ps.take i).getD (i - 1) (0, 0) = ps.getD (i - 1) (0, 0) := by
      simp only [List.getD_eq_getElem?_getD]
      rw [List.getElem?_take, if_pos (by omega)]
    have r := riseP_get h4 (i := i - 1) (by omega)
    rw [show i - 1 + 1 = i by omega] at r
    unfold ltP at r
    rw [decide_eq_true_eq] at r
    rw [e2]
    unfold dU dV
    rw [e]
    apply Prod.ext
    · simp only; omega
    · simp only
      by_cases hlt : (ps.getD (i - 1) (0, 0)).1 < (ps.getD i (0, 0)).1
      · have hc : (i == 0) = true ∨ (ps.getD (i - 1) (0, 0)).1 < (ps.getD i (0, 0)).1 := .inr hlt
        simp only [if_pos hc]
        rw [if_neg (by omega)]
      · have hc : ¬ ((i == 0) = true ∨ (ps.getD (i - 1) (0, 0)).1 < (ps.getD i (0, 0)).1) := fun h => h.elim (fun h => hi0 (by simpa using h)) hlt
        simp only [if_neg hc]
        rw [if_pos (by omega)]
        omega

/-- The answer of a decoder, on the heap. -/
def decA (H : Heap) (ys : List Int) (r : Value) (H' : Heap) : Prop := Ext H H' ∧ ∃ o : Option (List Pr), (∀ l, o = some l ↔ encR l = (some ys, 0)) ∧ match o with
  | none => r = .tuple #[.slice none 0 0, .int .i64 90]
  | some l => ∃ v, r = .tuple #[v, .int .i64 0] ∧ Own H' H.size 24 2 v (cp l)
theorem decA_none {H H' : Heap} {ys : List Int} (hx : Ext H H') (h : ∀ l, encR l = (some ys, 0) → False) : decA H ys (.tuple #[.slice none 0 0, .int .i64 90]) H' :=
  ⟨hx, none, fun l => ⟨fun h' => (by cases h'), fun h' => (h l h').elim⟩, rfl⟩
theorem rval_nonneg (ys : List Int) (s : Nat × Int) : 0 ≤ rval ys s := by
  unfold rval
  split
  · unfold vform
    split
    · simp
    · split
      · simp
      · split
        · simp
        · exact (vval_lt _).1
  · simp
/-- A reader stays where arcs are written. -/
theorem rdr_keep {H H' : Heap} {B : Nat} {e : TypeId} {v : Value} {xs : List Int} {s : Nat × Int} (he : e ≠ 24) (h : Rdr H B e v xs s) (hs : ∀ (b : Nat) (c : Array Value) (e : TypeId) (fr : Nat × Nat), H[b]? = some (.cells c e fr) → e ≠ 24 → H'[b]? = H[b]?) : Rdr H' B e v xs s := by
  obtain ⟨b, u, h1, h2, h3, h4, h5⟩ := h
  exact ⟨b, u, h1, h2, (hs b _ _ _ h3 he).trans h3, h4.keepT fun k c fr hk => hs k c _ fr hk (by decide), h5⟩

set_option maxHeartbeats 6400000 in
theorem F33 (v : Value) (ys : List Int) (H : Heap) (hv : Ints H 5 .u8 v ys) (hw : Byt ys) (hl : ys.length ≤ 140737488350000) :
    Fun Try.prog 33 #[v] H (decA H ys) := by
  obtain ⟨a, c, rfl⟩ := hv.form
  refine fun_of mixed (args := [_]) Try.func33 Try.ntmps33 b33 r33 rfl ?_
  simp only [go_sem, ↓reduceIte, Nat.reduceEqDiff, Nat.reduceLeDiff, Nat.reduceAdd, Nat.reduceMul, Nat.reduceSub, Nat.reduceBEq, Nat.reduceGT, Nat.reduceLT, Int.reduceLE, Int.reduceLT, Int.reduceNeg, reduceCtorEq]
  refine FunI.by (F59 _ ys H hv hl) ?_
  rintro rd H1 ⟨hrd, hx1⟩
  simp only [go_sem, ↓reduceIte, Nat.reduceEqDiff, Nat.reduceLeDiff, Nat.reduceAdd, Nat.reduceMul, Nat.reduceSub, Nat.reduceBEq, Nat.reduceGT, Nat.reduceLT, Int.reduceLE, Int.reduceLT, Int.reduceNeg, reduceCtorEq]
  refine FunI.by (F60 H.size rd ys (0, 0) H1 hrd hw (by omega)) ?_
  rintro _ H2 ⟨rfl, hrd2, hsz2, hfr2⟩
  have hrb : ∃ rb, rd = .pointer (some ⟨rb, 0, none⟩) ∧ H.size ≤ rb := by
    obtain ⟨b, u, h1, h2, _⟩ := hrd
    exact ⟨b, h1, h2⟩
  obtain ⟨rb, rfl, hrbl⟩ := hrb
  have hx2 : Ext H H2 := ⟨by rw [hsz2]; exact hx1.size, fun g hg => by
    rw [hfr2 g (by intro h; cases h; omega), hx1.get g hg]⟩
  obtain ⟨N, hN⟩ : ∃ N : Nat, rval ys (0, 0) = (N : Int) := ⟨(rval ys (0, 0)).toNat, by have := rval_nonneg ys (0, 0); omega⟩
  have hlen : ∀ l, encR l = (some ys, 0) → l.length = N ∧ l.length ≤ 100 := by
    intro l h
    obtain ⟨_, h2⟩ := enc_read h (k := 0) (by omega)
    obtain ⟨_, h4, _⟩ := enc_some h
    have h5 : rval ys (rdN ys 0).2 = (N : Int) := hN
    rw [h5] at h2
    have h6 : (numsI l).getD 0 0 = (l.length : Int) := rfl
    rw [h6] at h2
    omega
  by_cases c1 : 100 < N
  · have c1' : (100 : Int) < (N : Int) := by omega
    simp only [go_sem, ↓reduceIte, Nat.reduceEqDiff, Nat.reduceLeDiff, Nat.reduceAdd, Nat.reduceMul, Nat.reduceSub, Nat.reduceBEq, Nat.reduceGT, Nat.reduceLT, Int.reduceLE, Int.reduceLT, Int.reduceNeg, reduceCtorEq, hN, c1']
    exact decA_none hx2 fun l h => by have := hlen l h; omega
  have c1' : ¬ (100 : Int) < (N : Int) := by omega
  have z0 : (0 : Int) ≤ (N : Int) := by omega
  simp only [go_sem, ↓reduceIte, Nat.reduceEqDiff, Nat.reduceLeDiff, Nat.reduceAdd, Nat.reduceMul, Nat.reduceSub, Nat.reduceBEq, Nat.reduceGT, Nat.reduceLT, Int.reduceLE, Int.reduceLT, Int.reduceNeg, reduceCtorEq, hN, c1', Int.toNat_natCast]
  refine ⟨by omega, by omega, by omega, ?_⟩
  refine LoopI.by mixed (fun ρ H' => ∃ (i : Nat) (acc : List Pr) (v6 : Value), ρ 0 = .slice a ys.length c ∧ ρ 4 = .pointer (some ⟨rb, 0, none⟩) ∧ ρ 6 = v6 ∧ ρ 22 = .int .i64 N ∧ ρ 23 = .int .i64 i ∧ i ≤ N ∧ acc.length = i ∧
    Own H' H.size 24 2 v6 (cp acc) ∧ Rdr H' H.size 113 (.pointer (some ⟨rb, 0, none⟩)) ys (rdN ys (2 * i + 1)).2 ∧ (∀ j, j < i → 0 ≤ (acc.getD j (0, 0)).1 ∧ (acc.getD j (0, 0)).1 ≤ 16777217 * i ∧ 0 ≤ (acc.getD j (0, 0)).2 ∧ (acc.getD j (0, 0)).2 ≤ 16777217 * i) ∧
    (∀ l, encR l = (some ys, 0) → acc = l.take i) ∧ Ext H H') (fun ρ _ => N - (iof (ρ 23)).toNat) ?_ ?_
  · have hmade := Own.made (H := H2) (B := H.size) (e := 24) (sz := 2) (l := 0) (c := N) (z := .agg #[.int .i64 0, .int .i64 0]) hx2.size (by omega) (by omega)
    rw [Nat.zero_mul, List.take_zero] at hmade
    exact ⟨0, [], .slice (some ⟨H2.size, 0, none⟩) 0 N, by simp only [go_sem, ↓reduceIte, Nat.reduceEqDiff, Nat.reduceLeDiff, Nat.reduceAdd, Nat.reduceMul, Nat.reduceSub, Nat.reduceBEq, Nat.reduceGT, Nat.reduceLT, Int.reduceLE, Int.reduceLT, Int.reduceNeg, reduceCtorEq], by simp only [go_sem, ↓reduceIte, Nat.reduceEqDiff, Nat.reduceLeDiff, Nat.reduceAdd, Nat.reduceMul, Nat.reduceSub, Nat.reduceBEq, Nat.reduceGT, Nat.reduceLT, Int.reduceLE, Int.reduceLT, Int.reduceNeg, reduceCtorEq], by simp only [go_sem, ↓reduceIte, Nat.reduceEqDiff, Nat.reduceLeDiff, Nat.reduceAdd, Nat.reduceMul, Nat.reduceSub, Nat.reduceBEq, Nat.reduceGT, Nat.reduceLT, Int.reduceLE, Int.reduceLT, Int.reduceNeg, reduceCtorEq]; rfl, by simp only [go_sem, ↓reduceIte, Nat.reduceEqDiff, Nat.reduceLeDiff, Nat.reduceAdd, Nat.reduceMul, Nat.reduceSub, Nat.reduceBEq, Nat.reduceGT, Nat.reduceLT, Int.reduceLE, Int.reduceLT, Int.reduceNeg, reduceCtorEq], by simp only [go_sem, ↓reduceIte, Nat.reduceEqDiff, Nat.reduceLeDiff, Nat.reduceAdd, Nat.reduceMul, Nat.reduceSub, Nat.reduceBEq, Nat.reduceGT, Nat.reduceLT, Int.reduceLE, Int.reduceLT, Int.reduceNeg, reduceCtorEq]; rfl, by omega, rfl, hmade, Rdr.ext hrd2 (Ext.push _), by omega, fun l _ => by simp, hx2.trans ((Ext.push _).mono hx2.size)⟩
  rintro ρ H3 ⟨i, acc, v6, e0, e4, e6, e22, e23, hi, hal, ho, hrd3, hbd, hacc, hx3⟩
  by_cases hlt : i < N
  · have c2 : (i : Int) < (N : Int) := by omega
    simp only [go_sem, ↓reduceIte, Nat.reduceEqDiff, Nat.reduceLeDiff, Nat.reduceAdd, Nat.reduceMul, Nat.reduceSub, Nat.reduceBEq, Nat.reduceGT, Nat.reduceLT, Int.reduceLE, Int.reduceLT, Int.reduceNeg, reduceCtorEq, c33_L0, e0, e4, e6, e22, e23, c2]
    refine FunI.by (F60 H.size _ ys _ H3 hrd3 hw (by omega)) ?_
    rintro _ H4 ⟨rfl, hrd4, hsz4, hfr4⟩
    have fr4 : ∀ g, g ≠ rb → H4[g]? = H3[g]? := fun g hg => hfr4 g (by intro h; cases h; exact hg rfl)
    obtain ⟨U, hU⟩ : ∃ U, U = rval ys (rdN ys (2 * i + 1)).2 := ⟨_, rfl⟩
    rw [← hU]
    have rbt : ∀ {K : Heap} {s : Nat × Int}, Rdr K H.size 113 (.pointer (some ⟨rb, 0, none⟩)) ys s → ∃ c, K[rb]? = some (.cells c 113) := by
      rintro K s ⟨b, u, h1, h2, h3, _⟩
      cases h1
      exact ⟨_, h3⟩
    have ne4 : ∀ g c (fr : Nat × Nat), H3[g]? = some (.cells c 24 fr) → g ≠ rb := by
      rintro g c fr hg rfl
      obtain ⟨c', hc'⟩ := rbt hrd3
      rw [hg] at hc'
      cases hc'
    have ho4 : Own H4 H.size 24 2 v6 (cp acc) := ho.keepT fun g c fr hg => fr4 g (ne4 g c fr hg)
    have hx4 : Ext H H4 := ⟨by rw [hsz4]; exact hx3.size, fun g hg => by rw [fr4 g (by omega), hx3.get g hg]⟩
    simp only [go_sem, ↓reduceIte, Nat.reduceEqDiff, Nat.reduceLeDiff, Nat.reduceAdd, Nat.reduceMul, Nat.reduceSub, Nat.reduceBEq, Nat.reduceGT, Nat.reduceLT, Int.reduceLE, Int.reduceLT, Int.reduceNeg, reduceCtorEq, e4]
    refine ⟨rfl, hcan_of push_new (by simp), ?_⟩
    rw [hput_push2]
    have hrd5 : Rdr (H4.push (.cells #[.int .i64 U, .int .i64 0] 24)) H.size 113 (.pointer (some ⟨rb, 0, none⟩)) ys (rdN ys (2 * i + 2)).2 := Rdr.ext hrd4 (Ext.push _)
    have ho5 := ho4.push (.cells #[.int .i64 U, .int .i64 0] 24)
    have k5 : (H4.push (.cells #[.int .i64 U, .int .i64 0] 24))[H4.size]? = some (.cells #[.int .i64 U, .int .i64 0] 24) := push_new
    have hx5 : Ext H (H4.push (.cells #[.int .i64 U, .int .i64 0] 24)) := hx4.trans ((Ext.push _).mono hx4.size)
    have bl5 : ∀ g, blk v6 = some g → g < H4.size := fun g hg => (ho4.blk hg).2.1
    generalize H4.push (.cells #[.int .i64 U, .int .i64 0] 24) = H5 at *
    refine FunI.by (F60 H.size _ ys _ H5 hrd5 hw (by omega)) ?_
    rintro _ H6 ⟨rfl, hrd6, hsz6, hfr6⟩
    have fr6 : ∀ g, g ≠ rb → H6[g]? = H5[g]? := fun g hg => hfr6 g (by intro h; cases h; exact hg rfl)
    obtain ⟨V, hV⟩ : ∃ V, V = rval ys (rdN ys (2 * i + 2)).2 := ⟨_, rfl⟩
    rw [← hV]
    have ne5 : ∀ g c (fr : Nat × Nat), H5[g]? = some (.cells c 24 fr) → g ≠ rb := by
      rintro g c fr hg rfl
      obtain ⟨c', hc'⟩ := rbt hrd5
      rw [hg] at hc'
      cases hc'
    have ho6 : Own H6 H.size 24 2 v6 (cp acc) := ho5.keepT fun g c fr hg => fr6 g (ne5 g c fr hg)
    have hx6 : Ext H H6 := ⟨by rw [hsz6]; exact hx5.size, fun g hg => by rw [fr6 g (by omega), hx5.get g hg]⟩
    have k6 : H6[H4.size]? = some (.cells #[.int .i64 U, .int .i64 0] 24) := (fr6 _ (ne5 _ _ _ k5)).trans k5
    have hsH : H.size ≤ H4.size := hx4.size
    have k7 : (hput H6 H4.size 1 [.int .i64 V])[H4.size]? = some (.cells #[.int .i64 U, .int .i64 V] 24) := hput_same k6
    have ho7 : Own (hput H6 H4.size 1 [.int .i64 V]) H.size 24 2 v6 (cp acc) := ho6.keep fun g hg => hput_other _ _ _ _ (by have := bl5 g hg; omega)
    have hx7 : Ext H (hput H6 H4.size 1 [.int .i64 V]) := hx6.hput hsH
    have hrd7 : Rdr (hput H6 H4.size 1 [.int .i64 V]) H.size 113 (.pointer (some ⟨rb, 0, none⟩)) ys (rdN ys (2 * i + 3)).2 := rdr_keep (by decide) hrd6 fun b c e fr hb he => hput_other _ _ _ _ (by
      rintro rfl
      rw [k6] at hb
      cases hb
      exact he rfl)
    simp only [go_sem, ↓reduceIte, Nat.reduceEqDiff, Nat.reduceLeDiff, Nat.reduceAdd, Nat.reduceMul, Nat.reduceSub, Nat.reduceBEq, Nat.reduceGT, Nat.reduceLT, Int.reduceLE, Int.reduceLT, Int.reduceNeg, reduceCtorEq, e4, e23]
    refine ⟨rfl, hcan_of k6 (by simp), ?_⟩
    generalize hput H6 H4.size 1 [.int .i64 V] = H7 at *
    have q0 : hget H7 H4.size 0 = some (.int .i64 U) := by unfold hget; rw [k7]; rfl
    have q1 : hget H7 H4.size 1 = some (.int .i64 V) := by unfold hget; rw [k7]; rfl
    have hU0 : 0 ≤ U := by rw [hU]; exact rval_nonneg _ _
    have hV0 : 0 ≤ V := by rw [hV]; exact rval_nonneg _ _
    have hread : ∀ l, encR l = (some ys, 0) → i < l.length ∧ U = dU l i ∧ V = dV l i ∧ U < 16777216 ∧ V < 16777216 := by
      intro l h
      obtain ⟨n1, n2⟩ := hlen l h
      obtain ⟨a1, a2⟩ := enc_read h (k := 2 * i + 1) (by omega)
      obtain ⟨b1, b2⟩ := enc_read h (k := 2 * i + 2) (by omega)
      obtain ⟨g1, g2⟩ := nums_get l (j := i) (by omega)
      have m1 : (numsI l).getD (2 * i + 1) 0 ∈ numsI l := mem_getD (by rw [nums_len]; omega) 0
      have m2 : (numsI l).getD (2 * i + 2) 0 ∈ numsI l := mem_getD (by rw [nums_len]; omega) 0
      have r1 := enc_nums h _ m1
      have r2 := enc_nums h _ m2
      rw [← a2, ← hU] at r1
      rw [← b2, ← hV] at r2
      exact ⟨by omega, by rw [hU, a2, g1], by rw [hV, b2, g2], r1.2, r2.2⟩
    by_cases cU : 16777216 < U
    · simp only [go_sem, ↓reduceIte, Nat.reduceEqDiff, Nat.reduceLeDiff, Nat.reduceAdd, Nat.reduceMul, Nat.reduceSub, Nat.reduceBEq, Nat.reduceGT, Nat.reduceLT, Int.reduceLE, Int.reduceLT, Int.reduceNeg, reduceCtorEq, q0, q1, cU]
      exact decA_none hx7 fun l h => by have := hread l h; omega
    by_cases cV : 16777216 < V
    · simp only [go_sem, ↓reduceIte, Nat.reduceEqDiff, Nat.reduceLeDiff, Nat.reduceAdd, Nat.reduceMul, Nat.reduceSub, Nat.reduceBEq, Nat.reduceGT, Nat.reduceLT, Int.reduceLE, Int.reduceLT, Int.reduceNeg, reduceCtorEq, q0, q1, cU, cV]
      exact decA_none hx7 fun l h => by have := hread l h; omega
    by_cases hi0 : i = 0
    · have c3 : ¬ (0 : Int) < (i : Int) := by omega
      simp only [go_sem, ↓reduceIte, Nat.reduceEqDiff, Nat.reduceLeDiff, Nat.reduceAdd, Nat.reduceMul, Nat.reduceSub, Nat.reduceBEq, Nat.reduceGT, Nat.reduceLT, Int.reduceLE, Int.reduceLT, Int.reduceNeg, reduceCtorEq, q0, q1, cU, cV, c3, Option.bind_some]
      have kk : H7[H4.size]? = some (.cells #[.int .i64 U, .int .i64 V] 24) := k7
      have hoK : Own H7 H.size 24 2 v6 (cp acc) := ho7
      have hrK : Rdr H7 H.size 113 (.pointer (some ⟨rb, 0, none⟩)) ys (rdN ys (2 * (i + 1) + 1)).2 := hrd7
      have hxK : Ext H H7 := hx7
      generalize H7 = K at *
      have q4 : hget K H4.size 0 = some (.int .i64 U) := by unfold hget; rw [kk]; rfl
      have q5 : hget K H4.size 1 = some (.int .i64 V) := by unfold hget; rw [kk]; rfl
      simp only [go_sem, ↓reduceIte, Nat.reduceEqDiff, Nat.reduceLeDiff, Nat.reduceAdd, Nat.reduceMul, Nat.reduceSub, Nat.reduceBEq, Nat.reduceGT, Nat.reduceLT, Int.reduceLE, Int.reduceLT, Int.reduceNeg, reduceCtorEq, e6, q4, q5, Option.bind_some]
      refine RunI.by (append_lit ty22 ty24 rfl (by decide) hoK (ys := [.int .i64 U, .int .i64 V]) (m := 1) rfl rfl (n := i + 1) (by rw [cp_len, hal]; simp; omega) (by omega) (by omega) hxK.size) ?_
      rintro w6 K2 ⟨hoK2, hgK, _⟩
      have hxK2 := hxK.trans (hgK.upto hoK hxK.size)
      simp only [go_sem, ↓reduceIte, Nat.reduceEqDiff, Nat.reduceLeDiff, Nat.reduceAdd, Nat.reduceMul, Nat.reduceSub, Nat.reduceBEq, Nat.reduceGT, Nat.reduceLT, Int.reduceLE, Int.reduceLT, Int.reduceNeg, reduceCtorEq, e22, e23, w64_id (n := (i : Int) + 1) (by omega) (by omega)]
      have harc : arcOf acc U V = (U, V) := by unfold arcOf; rw [if_pos (by omega)]
      refine ⟨Hold.mk ⟨i + 1, acc ++ [(U, V)], w6, by simp only [go_sem, ↓reduceIte, Nat.reduceEqDiff, Nat.reduceLeDiff, Nat.reduceAdd, Nat.reduceMul, Nat.reduceSub, Nat.reduceBEq, Nat.reduceGT, Nat.reduceLT, Int.reduceLE, Int.reduceLT, Int.reduceNeg, reduceCtorEq, e0], by simp only [go_sem, ↓reduceIte, Nat.reduceEqDiff, Nat.reduceLeDiff, Nat.reduceAdd, Nat.reduceMul, Nat.reduceSub, Nat.reduceBEq, Nat.reduceGT, Nat.reduceLT, Int.reduceLE, Int.reduceLT, Int.reduceNeg, reduceCtorEq, e4], by simp only [go_sem, ↓reduceIte, Nat.reduceEqDiff, Nat.reduceLeDiff, Nat.reduceAdd, Nat.reduceMul, Nat.reduceSub, Nat.reduceBEq, Nat.reduceGT, Nat.reduceLT, Int.reduceLE, Int.reduceLT, Int.reduceNeg, reduceCtorEq], by simp only [go_sem, ↓reduceIte, Nat.reduceEqDiff, Nat.reduceLeDiff, Nat.reduceAdd, Nat.reduceMul, Nat.reduceSub, Nat.reduceBEq, Nat.reduceGT, Nat.reduceLT, Int.reduceLE, Int.reduceLT, Int.reduceNeg, reduceCtorEq, e22], by simp only [go_sem, ↓reduceIte, Nat.reduceEqDiff, Nat.reduceLeDiff, Nat.reduceAdd, Nat.reduceMul, Nat.reduceSub, Nat.reduceBEq, Nat.reduceGT, Nat.reduceLT, Int.reduceLE, Int.reduceLT, Int.reduceNeg, reduceCtorEq]; rfl, by omega, by rw [List.length_append, hal]; rfl, ?_, ?_, ?_, ?_, hxK2⟩, by omega⟩
      · rw [cp_app]; exact hoK2
      · exact rdr_keep (by decide) hrK fun b c e fr hb he => hgK.but.get b (Array.getElem?_eq_some_iff.1 hb).1 fun h => by
          obtain ⟨_, _, c', hc'⟩ := hoK.blk h.symm
          rw [hb] at hc'
          cases hc'
          exact he rfl
      · intro j hj
        by_cases hji : j = i
        · rw [hji, List.getD_eq_getElem?_getD, List.getElem?_append_right (by omega), hal]
          simp only [Nat.sub_self, List.getElem?_cons_zero, Option.getD_some]
          omega
        · have := hbd j (by omega)
          rw [List.getD_eq_getElem?_getD, List.getElem?_append_left (by omega), ← List.getD_eq_getElem?_getD]
          omega
      · intro l h
        obtain ⟨r1, r2, r3, _, _⟩ := hread l h
        have h1 := hacc l h
        have h2 := enc_arc h r1
        rw [← r2, ← r3, ← h1, harc] at h2
        rw [take_succ_getD r1 (0, 0), ← h1, h2]
    · have c3 : (0 : Int) < (i : Int) := by omega
      have w1 : IntKind.i64.wrap ((i : Int) - 1) = ((i - 1 : Nat) : Int) := by rw [w64_id (by omega) (by omega)]; omega
      have z1 : (0 : Int) ≤ ((i - 1 : Nat) : Int) := by omega
      have hbl := hbd (i - 1) (by omega)
      obtain ⟨w1a, w1b, rfl⟩ := prs_form (show Prs H7 v6 acc from ho7.sl)
      have z2 : ((i - 1 : Nat) : Int) < acc.length := by omega
      obtain ⟨ab, ao, rfl⟩ := prs_at (show Prs H7 _ acc from ho7.sl) (by omega)
      obtain ⟨g1, g2⟩ := prs_get (show Prs H7 _ acc from ho7.sl) (i := i - 1) (by omega)
      have hx9 : Ext H7 (H7.push (.cells #[.int .i64 (acc.getD (i - 1) (0, 0)).1, .int .i64 (acc.getD (i - 1) (0, 0)).2] 24)) := Ext.push _
      have hsz7 : H4.size < H7.size := (Array.getElem?_eq_some_iff.1 k7).1
      have k8 := (push_old (x := .cells #[.int .i64 (acc.getD (i - 1) (0, 0)).1, .int .i64 (acc.getD (i - 1) (0, 0)).2] 24) hsz7).trans k7
      have k9 : (H7.push (.cells #[.int .i64 (acc.getD (i - 1) (0, 0)).1, .int .i64 (acc.getD (i - 1) (0, 0)).2] 24))[H7.size]? = some (.cells #[.int .i64 (acc.getD (i - 1) (0, 0)).1, .int .i64 (acc.getD (i - 1) (0, 0)).2] 24) := push_new
      have ho8 := ho7.ext hx9
      have hrd8 := Rdr.ext hrd7 hx9
      have hx8 := hx7.trans (hx9.mono hx7.size)
      have hac : ∀ u v : Int, arcOf acc u v = ((acc.getD (i - 1) (0, 0)).1 + u, if u = 0 then v + ((acc.getD (i - 1) (0, 0)).2 + 1) else v) := fun u v => by unfold arcOf; rw [if_neg (by omega), hal]
      have wU : IntKind.i64.wrap (U + (acc.getD (i - 1) (0, 0)).1) = U + (acc.getD (i - 1) (0, 0)).1 := w64_id (by omega) (by omega)
      have wV1 : IntKind.i64.wrap ((acc.getD (i - 1) (0, 0)).2 + 1) = (acc.getD (i - 1) (0, 0)).2 + 1 := w64_id (by omega) (by omega)
      have wV2 : IntKind.i64.wrap (V + ((acc.getD (i - 1) (0, 0)).2 + 1)) = V + ((acc.getD (i - 1) (0, 0)).2 + 1) := w64_id (by omega) (by omega)
      simp only [go_sem, ↓reduceIte, Nat.reduceEqDiff, Nat.reduceLeDiff, Nat.reduceAdd, Nat.reduceMul, Nat.reduceSub, Nat.reduceBEq, Nat.reduceGT, Nat.reduceLT, Int.reduceLE, Int.reduceLT, Int.reduceNeg, reduceCtorEq, q0, q1, cU, cV, c3, w1, z1, z2, e6, g1, g2, Int.toNat_natCast, Option.bind_some, hput_push2]
      refine ⟨rfl, hcan_of push_new (by simp), ?_⟩
      generalize H7.push (.cells #[.int .i64 (acc.getD (i - 1) (0, 0)).1, .int .i64 (acc.getD (i - 1) (0, 0)).2] 24) = H8 at *
      have p0 : hget H8 H4.size 0 = some (.int .i64 U) := by unfold hget; rw [k8]; rfl
      have p1 : hget H8 H4.size 1 = some (.int .i64 V) := by unfold hget; rw [k8]; rfl
      have p2 : hget H8 H7.size 0 = some (.int .i64 (acc.getD (i - 1) (0, 0)).1) := by unfold hget; rw [k9]; rfl
      have p3 : hget H8 H7.size 1 = some (.int .i64 (acc.getD (i - 1) (0, 0)).2) := by unfold hget; rw [k9]; rfl
      by_cases hU1 : U = 0
      · have ka : (hput H8 H4.size 1 [.int .i64 (V + ((acc.getD (i - 1) (0, 0)).2 + 1))])[H4.size]? = some (.cells #[.int .i64 U, .int .i64 (V + ((acc.getD (i - 1) (0, 0)).2 + 1))] 24) := hput_same k8
        have kb : (hput H8 H4.size 1 [.int .i64 (V + ((acc.getD (i - 1) (0, 0)).2 + 1))])[H7.size]? = some (.cells #[.int .i64 (acc.getD (i - 1) (0, 0)).1, .int .i64 (acc.getD (i - 1) (0, 0)).2] 24) := (hput_other _ _ _ _ (by omega)).trans k9
        have p4 : hget (hput H8 H4.size 1 [.int .i64 (V + ((acc.getD (i - 1) (0, 0)).2 + 1))]) H4.size 0 = some (.int .i64 U) := by unfold hget; rw [ka]; rfl
        have p5 : hget (hput H8 H4.size 1 [.int .i64 (V + ((acc.getD (i - 1) (0, 0)).2 + 1))]) H7.size 0 = some (.int .i64 (acc.getD (i - 1) (0, 0)).1) := by unfold hget; rw [kb]; rfl
        have hU2 : (U = 0) = True := eq_true hU1
        simp only [go_sem, ↓reduceIte, Nat.reduceEqDiff, Nat.reduceLeDiff, Nat.reduceAdd, Nat.reduceMul, Nat.reduceSub, Nat.reduceBEq, Nat.reduceGT, Nat.reduceLT, Int.reduceLE, Int.reduceLT, Int.reduceNeg, reduceCtorEq, p0, p1, p2, p3, hU2, wV1, wV2, p4, p5, wU]
        refine ⟨rfl, hcan_of k8 (by simp), rfl, hcan_of ka (by simp), ?_⟩
        have kk : (hput (hput H8 H4.size 1 [.int .i64 (V + ((acc.getD (i - 1) (0, 0)).2 + 1))]) H4.size 0 [.int .i64 (U + (acc.getD (i - 1) (0, 0)).1)])[H4.size]? = some (.cells #[.int .i64 (U + (acc.getD (i - 1) (0, 0)).1), .int .i64 (V + ((acc.getD (i - 1) (0, 0)).2 + 1))] 24) := hput_same ka
        have hoK : Own (hput (hput H8 H4.size 1 [.int .i64 (V + ((acc.getD (i - 1) (0, 0)).2 + 1))]) H4.size 0 [.int .i64 (U + (acc.getD (i - 1) (0, 0)).1)]) H.size 24 2 (.slice (some ⟨ab, ao, none⟩) acc.length w1b) (cp acc) := (ho8.keep fun g hg => hput_other _ _ _ _ (by have := bl5 g hg; omega)).keep fun g hg => hput_other _ _ _ _ (by have := bl5 g hg; omega)
        have hrK : Rdr (hput (hput H8 H4.size 1 [.int .i64 (V + ((acc.getD (i - 1) (0, 0)).2 + 1))]) H4.size 0 [.int .i64 (U + (acc.getD (i - 1) (0, 0)).1)]) H.size 113 (.pointer (some ⟨rb, 0, none⟩)) ys (rdN ys (2 * (i + 1) + 1)).2 := rdr_keep (by decide) (rdr_keep (by decide) hrd8 fun b c e fr hb he => hput_other _ _ _ _ (by rintro rfl; rw [k8] at hb; cases hb; exact he rfl)) fun b c e fr hb he => hput_other _ _ _ _ (by rintro rfl; rw [ka] at hb; cases hb; exact he rfl)
        have hxK : Ext H (hput (hput H8 H4.size 1 [.int .i64 (V + ((acc.getD (i - 1) (0, 0)).2 + 1))]) H4.size 0 [.int .i64 (U + (acc.getD (i - 1) (0, 0)).1)]) := (hx8.hput hsH).hput hsH
        generalize hput (hput H8 H4.size 1 [.int .i64 (V + ((acc.getD (i - 1) (0, 0)).2 + 1))]) H4.size 0 [.int .i64 (U + (acc.getD (i - 1) (0, 0)).1)] = K at *
        have q4 : hget K H4.size 0 = some (.int .i64 (U + (acc.getD (i - 1) (0, 0)).1)) := by unfold hget; rw [kk]; rfl
        have q5 : hget K H4.size 1 = some (.int .i64 (V + ((acc.getD (i - 1) (0, 0)).2 + 1))) := by unfold hget; rw [kk]; rfl
        simp only [go_sem, ↓reduceIte, Nat.reduceEqDiff, Nat.reduceLeDiff, Nat.reduceAdd, Nat.reduceMul, Nat.reduceSub, Nat.reduceBEq, Nat.reduceGT, Nat.reduceLT, Int.reduceLE, Int.reduceLT, Int.reduceNeg, reduceCtorEq, e6, q4, q5, Option.bind_some]
        refine RunI.by (append_lit ty22 ty24 rfl (by decide) hoK (ys := [.int .i64 (U + (acc.getD (i - 1) (0, 0)).1), .int .i64 (V + ((acc.getD (i - 1) (0, 0)).2 + 1))]) (m := 1) rfl rfl (n := i + 1) (by rw [cp_len, hal]; simp; omega) (by omega) (by omega) hxK.size) ?_
        rintro w6 K2 ⟨hoK2, hgK, _⟩
        have hxK2 := hxK.trans (hgK.upto hoK hxK.size)
        simp only [go_sem, ↓reduceIte, Nat.reduceEqDiff, Nat.reduceLeDiff, Nat.reduceAdd, Nat.reduceMul, Nat.reduceSub, Nat.reduceBEq, Nat.reduceGT, Nat.reduceLT, Int.reduceLE, Int.reduceLT, Int.reduceNeg, reduceCtorEq, e22, e23, w64_id (n := (i : Int) + 1) (by omega) (by omega)]
        have harc : arcOf acc U V = ((U + (acc.getD (i - 1) (0, 0)).1), (V + ((acc.getD (i - 1) (0, 0)).2 + 1))) := by rw [hac, if_pos hU1, Int.add_comm]
        refine ⟨Hold.mk ⟨i + 1, acc ++ [((U + (acc.getD (i - 1) (0, 0)).1), (V + ((acc.getD (i - 1) (0, 0)).2 + 1)))], w6, by simp only [go_sem, ↓reduceIte, Nat.reduceEqDiff, Nat.reduceLeDiff, Nat.reduceAdd, Nat.reduceMul, Nat.reduceSub, Nat.reduceBEq, Nat.reduceGT, Nat.reduceLT, Int.reduceLE, Int.reduceLT, Int.reduceNeg, reduceCtorEq, e0], by simp only [go_sem, ↓reduceIte, Nat.reduceEqDiff, Nat.reduceLeDiff, Nat.reduceAdd, Nat.reduceMul, Nat.reduceSub, Nat.reduceBEq, Nat.reduceGT, Nat.reduceLT, Int.reduceLE, Int.reduceLT, Int.reduceNeg, reduceCtorEq, e4], by simp only [go_sem, ↓reduceIte, Nat.reduceEqDiff, Nat.reduceLeDiff, Nat.reduceAdd, Nat.reduceMul, Nat.reduceSub, Nat.reduceBEq, Nat.reduceGT, Nat.reduceLT, Int.reduceLE, Int.reduceLT, Int.reduceNeg, reduceCtorEq], by simp only [go_sem, ↓reduceIte, Nat.reduceEqDiff, Nat.reduceLeDiff, Nat.reduceAdd, Nat.reduceMul, Nat.reduceSub, Nat.reduceBEq, Nat.reduceGT, Nat.reduceLT, Int.reduceLE, Int.reduceLT, Int.reduceNeg, reduceCtorEq, e22], by simp only [go_sem, ↓reduceIte, Nat.reduceEqDiff, Nat.reduceLeDiff, Nat.reduceAdd, Nat.reduceMul, Nat.reduceSub, Nat.reduceBEq, Nat.reduceGT, Nat.reduceLT, Int.reduceLE, Int.reduceLT, Int.reduceNeg, reduceCtorEq]; rfl, by omega, by rw [List.length_append, hal]; rfl, ?_, ?_, ?_, ?_, hxK2⟩, by omega⟩
        · rw [cp_app]; exact hoK2
        · exact rdr_keep (by decide) hrK fun b c e fr hb he => hgK.but.get b (Array.getElem?_eq_some_iff.1 hb).1 fun h => by
            obtain ⟨_, _, c', hc'⟩ := hoK.blk h.symm
            rw [hb] at hc'
            cases hc'
            exact he rfl
        · intro j hj
          by_cases hji : j = i
          · rw [hji, List.getD_eq_getElem?_getD, List.getElem?_append_right (by omega), hal]
            simp only [Nat.sub_self, List.getElem?_cons_zero, Option.getD_some]
            omega
          · have := hbd j (by omega)
            rw [List.getD_eq_getElem?_getD, List.getElem?_append_left (by omega), ← List.getD_eq_getElem?_getD]
            omega
        · intro l h
          obtain ⟨r1, r2, r3, _, _⟩ := hread l h
          have h1 := hacc l h
          have h2 := enc_arc h r1
          rw [← r2, ← r3, ← h1, harc] at h2
          rw [take_succ_getD r1 (0, 0), ← h1, h2]
      · have kb : (hput H8 H4.size 0 [.int .i64 (U + (acc.getD (i - 1) (0, 0)).1)])[H4.size]? = some (.cells #[.int .i64 (U + (acc.getD (i - 1) (0, 0)).1), .int .i64 V] 24) := hput_same k8
        simp only [go_sem, ↓reduceIte, Nat.reduceEqDiff, Nat.reduceLeDiff, Nat.reduceAdd, Nat.reduceMul, Nat.reduceSub, Nat.reduceBEq, Nat.reduceGT, Nat.reduceLT, Int.reduceLE, Int.reduceLT, Int.reduceNeg, reduceCtorEq, p0, p1, p2, p3, hU1, wU]
        refine ⟨rfl, hcan_of k8 (by simp), ?_⟩
        have kk : (hput H8 H4.size 0 [.int .i64 (U + (acc.getD (i - 1) (0, 0)).1)])[H4.size]? = some (.cells #[.int .i64 (U + (acc.getD (i - 1) (0, 0)).1), .int .i64 V] 24) := kb
        have hoK : Own (hput H8 H4.size 0 [.int .i64 (U + (acc.getD (i - 1) (0, 0)).1)]) H.size 24 2 (.slice (some ⟨ab, ao, none⟩) acc.length w1b) (cp acc) := ho8.keep fun g hg => hput_other _ _ _ _ (by have := bl5 g hg; omega)
        have hrK : Rdr (hput H8 H4.size 0 [.int .i64 (U + (acc.getD (i - 1) (0, 0)).1)]) H.size 113 (.pointer (some ⟨rb, 0, none⟩)) ys (rdN ys (2 * (i + 1) + 1)).2 := rdr_keep (by decide) hrd8 fun b c e fr hb he => hput_other _ _ _ _ (by rintro rfl; rw [k8] at hb; cases hb; exact he rfl)
        have hxK : Ext H (hput H8 H4.size 0 [.int .i64 (U + (acc.getD (i - 1) (0, 0)).1)]) := hx8.hput hsH
        generalize hput H8 H4.size 0 [.int .i64 (U + (acc.getD (i - 1) (0, 0)).1)] = K at *
        have q4 : hget K H4.size 0 = some (.int .i64 (U + (acc.getD (i - 1) (0, 0)).1)) := by unfold hget; rw [kk]; rfl
        have q5 : hget K H4.size 1 = some (.int .i64 V) := by unfold hget; rw [kk]; rfl
        simp only [go_sem, ↓reduceIte, Nat.reduceEqDiff, Nat.reduceLeDiff, Nat.reduceAdd, Nat.reduceMul, Nat.reduceSub, Nat.reduceBEq, Nat.reduceGT, Nat.reduceLT, Int.reduceLE, Int.reduceLT, Int.reduceNeg, reduceCtorEq, e6, q4, q5, Option.bind_some]
        refine RunI.by (append_lit ty22 ty24 rfl (by decide) hoK (ys := [.int .i64 (U + (acc.getD (i - 1) (0, 0)).1), .int .i64 V]) (m := 1) rfl rfl (n := i + 1) (by rw [cp_len, hal]; simp; omega) (by omega) (by omega) hxK.size) ?_
        rintro w6 K2 ⟨hoK2, hgK, _⟩
        have hxK2 := hxK.trans (hgK.upto hoK hxK.size)
        simp only [go_sem, ↓reduceIte, Nat.reduceEqDiff, Nat.reduceLeDiff, Nat.reduceAdd, Nat.reduceMul, Nat.reduceSub, Nat.reduceBEq, Nat.reduceGT, Nat.reduceLT, Int.reduceLE, Int.reduceLT, Int.reduceNeg, reduceCtorEq, e22, e23, w64_id (n := (i : Int) + 1) (by omega) (by omega)]
        have harc : arcOf acc U V = ((U + (acc.getD (i - 1) (0, 0)).1), V) := by rw [hac, if_neg hU1, Int.add_comm]
        refine ⟨Hold.mk ⟨i + 1, acc ++ [((U + (acc.getD (i - 1) (0, 0)).1), V)], w6, by simp only [go_sem, ↓reduceIte, Nat.reduceEqDiff, Nat.reduceLeDiff, Nat.reduceAdd, Nat.reduceMul, Nat.reduceSub, Nat.reduceBEq, Nat.reduceGT, Nat.reduceLT, Int.reduceLE, Int.reduceLT, Int.reduceNeg, reduceCtorEq, e0], by simp only [go_sem, ↓reduceIte, Nat.reduceEqDiff, Nat.reduceLeDiff, Nat.reduceAdd, Nat.reduceMul, Nat.reduceSub, Nat.reduceBEq, Nat.reduceGT, Nat.reduceLT, Int.reduceLE, Int.reduceLT, Int.reduceNeg, reduceCtorEq, e4], by simp only [go_sem, ↓reduceIte, Nat.reduceEqDiff, Nat.reduceLeDiff, Nat.reduceAdd, Nat.reduceMul, Nat.reduceSub, Nat.reduceBEq, Nat.reduceGT, Nat.reduceLT, Int.reduceLE, Int.reduceLT, Int.reduceNeg, reduceCtorEq], by simp only [go_sem, ↓reduceIte, Nat.reduceEqDiff, Nat.reduceLeDiff, Nat.reduceAdd, Nat.reduceMul, Nat.reduceSub, Nat.reduceBEq, Nat.reduceGT, Nat.reduceLT, Int.reduceLE, Int.reduceLT, Int.reduceNeg, reduceCtorEq, e22], by simp only [go_sem, ↓reduceIte, Nat.reduceEqDiff, Nat.reduceLeDiff, Nat.reduceAdd, Nat.reduceMul, Nat.reduceSub, Nat.reduceBEq, Nat.reduceGT, Nat.reduceLT, Int.reduceLE, Int.reduceLT, Int.reduceNeg, reduceCtorEq]; rfl, by omega, by rw [List.length_append, hal]; rfl, ?_, ?_, ?_, ?_, hxK2⟩, by omega⟩
        · rw [cp_app]; exact hoK2
        · exact rdr_keep (by decide) hrK fun b c e fr hb he => hgK.but.get b (Array.getElem?_eq_some_iff.1 hb).1 fun h => by
            obtain ⟨_, _, c', hc'⟩ := hoK.blk h.symm
            rw [hb] at hc'
            cases hc'
            exact he rfl
        · intro j hj
          by_cases hji : j = i
          · rw [hji, List.getD_eq_getElem?_getD, List.getElem?_append_right (by omega), hal]
            simp only [Nat.sub_self, List.getElem?_cons_zero, Option.getD_some]
            omega
          · have := hbd j (by omega)
            rw [List.getD_eq_getElem?_getD, List.getElem?_append_left (by omega), ← List.getD_eq_getElem?_getD]
            omega
        · intro l h
          obtain ⟨r1, r2, r3, _, _⟩ := hread l h
          have h1 := hacc l h
          have h2 := enc_arc h r1
          rw [← r2, ← r3, ← h1, harc] at h2
          rw [take_succ_getD r1 (0, 0), ← h1, h2]
  · have c2 : ¬ (i : Int) < (N : Int) := by omega
    have hiN : i = N := by omega
    subst hiN
    simp only [go_sem, ↓reduceIte, Nat.reduceEqDiff, Nat.reduceLeDiff, Nat.reduceAdd, Nat.reduceMul, Nat.reduceSub, Nat.reduceBEq, Nat.reduceGT, Nat.reduceLT, Int.reduceLE, Int.reduceLT, Int.reduceNeg, reduceCtorEq, c33_L0, e0, e4, e6, e22, e23, c2]
    refine FunI.by (F61 H.size _ ys _ H3 hrd3) ?_
    rintro _ _ ⟨rfl, rfl⟩
    by_cases hs0 : (rdN ys (2 * i + 1)).2.2 = 0
    · obtain ⟨w1, w2, rfl⟩ := prs_form (show Prs H3 v6 acc from ho.sl)
      simp only [go_sem, ↓reduceIte, Nat.reduceEqDiff, Nat.reduceLeDiff, Nat.reduceAdd, Nat.reduceMul, Nat.reduceSub, Nat.reduceBEq, Nat.reduceGT, Nat.reduceLT, Int.reduceLE, Int.reduceLT, Int.reduceNeg, reduceCtorEq, hs0, e6]
      refine FunI.by (F20 _ acc H3 ho.sl) ?_
      rintro r H4 ⟨hx4, w, rfl, how⟩
      have hxa := hx3.trans (hx4.mono hx3.size)
      by_cases hc : (encR acc).2 = 0
      · have hsome : ∃ zs, encR acc = (some zs, 0) := by
          unfold encR at hc ⊢
          split
          · rename_i h; rw [if_pos h] at hc; cases hc
          · rename_i h
            rw [if_neg h] at hc
            split
            · rename_i h; rw [if_pos h] at hc; cases hc
            · rename_i h
              rw [if_neg h] at hc
              split
              · rename_i h; rw [if_pos h] at hc; cases hc
              · exact ⟨_, rfl⟩
        obtain ⟨zs, hzs⟩ := hsome
        rw [hzs] at how
        have hoz : Own H4 H3.size 5 1 w (zs.map (.int .u8)) := how
        simp only [go_sem, ↓reduceIte, Nat.reduceEqDiff, Nat.reduceLeDiff, Nat.reduceAdd, Nat.reduceMul, Nat.reduceSub, Nat.reduceBEq, Nat.reduceGT, Nat.reduceLT, Int.reduceLE, Int.reduceLT, Int.reduceNeg, reduceCtorEq, hc, e0]
        refine FunI.by (F62 _ w ys zs H4 (hv.ext hxa) hoz.sl hw (enc_byt hzs)) ?_
        rintro _ _ ⟨rfl, rfl⟩
        by_cases hyz : ys = zs
        · subst hyz
          simp only [go_sem, ↓reduceIte, Nat.reduceEqDiff, Nat.reduceLeDiff, Nat.reduceAdd, Nat.reduceMul, Nat.reduceSub, Nat.reduceBEq, Nat.reduceGT, Nat.reduceLT, Int.reduceLE, Int.reduceLT, Int.reduceNeg, reduceCtorEq, decide_true, e6]
          refine ⟨hxa, some acc, fun l => ⟨fun h => by cases h; exact hzs, fun h => ?_⟩, _, rfl, ho.ext hx4⟩
          have h1 := hacc l h
          obtain ⟨n1, _⟩ := hlen l h
          rw [h1, List.take_of_length_le (by omega)]
        · simp only [go_sem, ↓reduceIte, Nat.reduceEqDiff, Nat.reduceLeDiff, Nat.reduceAdd, Nat.reduceMul, Nat.reduceSub, Nat.reduceBEq, Nat.reduceGT, Nat.reduceLT, Int.reduceLE, Int.reduceLT, Int.reduceNeg, reduceCtorEq, hyz, decide_false]
          refine decA_none hxa fun l h => ?_
          have h1 := hacc l h
          obtain ⟨n1, _⟩ := hlen l h
          rw [List.take_of_length_le (by omega)] at h1
          rw [← h1, hzs] at h
          exact hyz (by simpa using h.symm)
      · simp only [go_sem, ↓reduceIte, Nat.reduceEqDiff, Nat.reduceLeDiff, Nat.reduceAdd, Nat.reduceMul, Nat.reduceSub, Nat.reduceBEq, Nat.reduceGT, Nat.reduceLT, Int.reduceLE, Int.reduceLT, Int.reduceNeg, reduceCtorEq, hc]
        refine decA_none hxa fun l h => ?_
        have h1 := hacc l h
        obtain ⟨n1, _⟩ := hlen l h
        rw [List.take_of_length_le (by omega)] at h1
        rw [← h1] at h
        exact hc (by rw [h])
    · simp only [go_sem, ↓reduceIte, Nat.reduceEqDiff, Nat.reduceLeDiff, Nat.reduceAdd, Nat.reduceMul, Nat.reduceSub, Nat.reduceBEq, Nat.reduceGT, Nat.reduceLT, Int.reduceLE, Int.reduceLT, Int.reduceNeg, reduceCtorEq, hs0]
      refine decA_none hx3 fun l h => ?_
      obtain ⟨n1, _⟩ := hlen l h
      have h2 := enc_end h
      rw [n1] at h2
      exact hs0 h2
end Go.Proofs.Ytcgejfmbhpmjfaa
