/- CkptNames and CkptEncodes answer true and leave all that there was; the walk, over heaps. -/
import Derived.Test.YtbdclcdoiabapaaDoorVFirst
set_option linter.unusedSimpArgs false
set_option linter.unusedVariables false
namespace Go.Proofs.YtbdclcdoiabapaaDoor
open Go Go.V
-- 3: pith/pithlaw18.CkptNames
-- 4: pith/pithlaw18.CkptEncodes
-- 7: pith/pithlaw18.first
-- 11: pith/ckpt.Encode
-- 13: pith/pithref18.Encode
-- 12: pith/pithref.Check
-- 10: pith/pithlaw18.few
-- 8: pith/ckpt.Name
-- 9: pith/pithref18.Name
-- 16: pith/pithlaw18.num
-- 14: pith/pithref.SameBytes
-- 15: pith/pithref.SameByteLists
-- 5: uint8
-- 30: []uint8
-- 31: [][]uint8
-- 4: bool
-- 3: int
-- 28: pith/api.Check

theorem F3 (n : Int) (H : Heap) (ht : Tab H) (h1 : n ≤ 9223372036854775807) : Fun Tryd.prog 3 #[.int .i64 n] H (fun r H' => r = .bool true ∧ Ext H H') := by
  refine fun_of mixed (args := [_]) Tryd.func3 Tryd.ntmps3 b3 r3 rfl ?_
  simp only [go_sem, ↓reduceIte, Nat.reduceEqDiff, Nat.reduceLeDiff, Nat.reduceAdd, Nat.reduceMul, Nat.reduceSub, Nat.reduceBEq, Nat.reduceGT, Nat.reduceLT, Int.reduceLE, Int.reduceLT, Int.reduceNeg, reduceCtorEq]
  refine FunI.by (F7 H ht) ?_
  rintro _ H1 ⟨rfl, hx1⟩
  by_cases hn : n < 0
  · simp only [go_sem, ↓reduceIte, Nat.reduceEqDiff, Nat.reduceLeDiff, Nat.reduceAdd, Nat.reduceMul, Nat.reduceSub, Nat.reduceBEq, Nat.reduceGT, Nat.reduceLT, Int.reduceLE, Int.reduceLT, Int.reduceNeg, reduceCtorEq, hn]
    exact hx1
  · simp only [go_sem, ↓reduceIte, Nat.reduceEqDiff, Nat.reduceLeDiff, Nat.reduceAdd, Nat.reduceMul, Nat.reduceSub, Nat.reduceBEq, Nat.reduceGT, Nat.reduceLT, Int.reduceLE, Int.reduceLT, Int.reduceNeg, reduceCtorEq, hn]
    refine FunI.by (F8 n H1 (ht.ext hx1) (by omega) h1) ?_
    rintro _ H2 ⟨rfl, hx2⟩
    have hxa := hx1.trans (hx2.mono hx1.size)
    simp only [go_sem, ↓reduceIte, Nat.reduceEqDiff, Nat.reduceLeDiff, Nat.reduceAdd, Nat.reduceMul, Nat.reduceSub, Nat.reduceBEq, Nat.reduceGT, Nat.reduceLT, Int.reduceLE, Int.reduceLT, Int.reduceNeg, reduceCtorEq]
    refine FunI.by (F9 n H2 (ht.ext hxa) (by omega) h1) ?_
    rintro _ H3 ⟨rfl, hx3⟩
    simp only [go_sem, ↓reduceIte, Nat.reduceEqDiff, Nat.reduceLeDiff, Nat.reduceAdd, Nat.reduceMul, Nat.reduceSub, Nat.reduceBEq, Nat.reduceGT, Nat.reduceLT, Int.reduceLE, Int.reduceLT, Int.reduceNeg, reduceCtorEq]
    exact hxa.trans (hx3.mono hxa.size)

theorem data_wf (xs : List Int) (ds : List Bool) : ∀ l ∈ chkData xs ds, Byt l := by
  have hp : ∀ (n : Nat) (xs : List Int), xs.length ≤ n → ∀ l ∈ pieces xs, Byt l := by
    intro n
    induction n with
    | zero =>
      intro xs h l hl
      rw [pieces_zero (by omega)] at hl
      cases hl
    | succ n ih =>
      intro xs h l hl
      by_cases h0 : 0 < xs.length
      · rw [pieces_cons h0] at hl
        rcases List.mem_cons.1 hl with rfl | hl
        · intro x hx
          obtain ⟨y, _, hy⟩ := List.mem_flatMap.1 hx
          exact vtail_wf _ _ x hy
        · exact ih (xs.drop 200) (by simp; omega) l hl
      · rw [pieces_zero (by omega)] at hl
        cases hl
  intro l hl
  simp only [chkData, List.mem_append] at hl
  rcases hl with hl | hl
  · exact hp _ xs (Nat.le_refl _) l hl
  · split at hl
    · cases hl
    · rw [List.mem_singleton.1 hl]
      intro x hx
      obtain ⟨b, _, rfl⟩ := List.mem_map.1 hx
      cases b <;> decide
theorem pieces_len (xs : List Int) : (pieces xs).length ≤ xs.length := by
  have hp : ∀ (n : Nat) (xs : List Int), xs.length ≤ n → (pieces xs).length ≤ xs.length := by
    intro n
    induction n with
    | zero => intro xs h; rw [pieces_zero (by omega)]; simp
    | succ n ih =>
      intro xs h
      by_cases h0 : 0 < xs.length
      · rw [pieces_cons h0]
        have := ih (xs.drop 200) (by simp; omega)
        simp at this ⊢
        omega
      · rw [pieces_zero (by omega)]; simp
  exact hp _ xs (Nat.le_refl _)
theorem data_len (xs : List Int) (ds : List Bool) : (chkData xs ds).length ≤ xs.length + 1 := by
  have := pieces_len xs
  simp only [chkData, List.length_append]
  split <;> simp <;> omega

/-- What Encode answers, one form for both. -/
def encL {α : Type} (c : Bool) (l : List α) : List α := if c then l else []
theorem enc_form {gen p : Int} {xs : List Int} {ds : List Bool} {B : Nat} {r : Value} {H' : Heap} (hr : (mayC gen p xs ds = false ∧ r = .tuple #[.slice none 0 0, .slice none 0 0, .int .i64 180]) ∨
       (mayC gen p xs ds = true ∧ ∃ h l, r = .tuple #[h, l, .int .i64 0] ∧ Own H' B 5 1 h ((chkHead gen p xs ds).map (.int .u8)) ∧ OwnLists H' B 30 5 l (chkData xs ds))) :
    ∃ h l, r = .tuple #[h, l, .int .i64 (if mayC gen p xs ds then 0 else 180)] ∧ Ints H' 5 .u8 h (encL (mayC gen p xs ds) (chkHead gen p xs ds)) ∧ Lists H' 30 5 l (encL (mayC gen p xs ds) (chkData xs ds)) := by
  rcases hr with ⟨hm, rfl⟩ | ⟨hm, h, l, rfl, h1, h2⟩
  · rw [hm]
    exact ⟨_, _, rfl, Ints.nil, ⟨[], Sl.nil, trivial⟩⟩
  · refine ⟨h, l, ?_, ?_, ?_⟩
    · rw [hm]; rfl
    · rw [hm]; exact h1.sl
    · rw [hm]; exact h2.lists
theorem encL_wf {c : Bool} {xs : List Int} (h : Byt xs) : Byt (encL c xs) := by
  unfold encL; split
  · exact h
  · intro x hx; cases hx
theorem encL_wfs {c : Bool} {xs : List (List Int)} (h : ∀ l ∈ xs, Byt l) : ∀ l ∈ encL c xs, Byt l := by
  unfold encL; split
  · exact h
  · intro x hx; cases hx
theorem encL_len {α : Type} {c : Bool} {xs : List α} : (encL c xs).length ≤ xs.length := by
  unfold encL; split <;> simp

set_option maxHeartbeats 1600000 in
set_option maxRecDepth 20000 in
theorem F4 (v : Value) (gen p : Int) (xs : List Int) (ds : List Bool) (H : Heap) (hv : Chk H 3 4 v p xs ds) (ht : Tab H) :
    Fun Tryd.prog 4 #[.int .i64 gen, v] H (fun r H' => r = .bool true ∧ Ext H H') := by
  have hv' := hv
  obtain ⟨a, b, rfl, ha, hb⟩ := hv'
  obtain ⟨a1, a2, rfl⟩ := ha.form
  obtain ⟨b1, b2, rfl⟩ := hb.form
  refine fun_of mixed (args := [_, _]) Tryd.func4 Tryd.ntmps4 b4 r4 rfl ?_
  simp only [go_sem, ↓reduceIte, Nat.reduceEqDiff, Nat.reduceLeDiff, Nat.reduceAdd, Nat.reduceMul, Nat.reduceSub, Nat.reduceBEq, Nat.reduceGT, Nat.reduceLT, Int.reduceLE, Int.reduceLT, Int.reduceNeg, reduceCtorEq]
  have x1 : Ext H (H.push (.cells #[.int .i64 p, .slice a1 xs.length a2, .slice b1 ds.length b2] 28)) := Ext.push _
  have kB : (H.push (.cells #[.int .i64 p, .slice a1 xs.length a2, .slice b1 ds.length b2] 28))[H.size]? = some (.cells #[.int .i64 p, .slice a1 xs.length a2, .slice b1 ds.length b2] 28) := push_new
  have hv1 := hv.ext x1
  generalize H.push (.cells #[.int .i64 p, .slice a1 xs.length a2, .slice b1 ds.length b2] 28) = H0 at *
  have get3 : ∀ {H' : Heap}, H'[H.size]? = some (.cells #[.int .i64 p, .slice a1 xs.length a2, .slice b1 ds.length b2] 28) → hget H' H.size 0 = some (.int .i64 p) ∧ hget H' H.size 1 = some (.slice a1 xs.length a2) ∧ hget H' H.size 2 = some (.slice b1 ds.length b2) := by
    intro H' h
    unfold hget
    rw [h]
    exact ⟨rfl, rfl, rfl⟩
  refine FunI.by (F7 H0 (ht.ext x1)) ?_
  rintro _ H1 ⟨rfl, hx1⟩
  have hxa := x1.trans (hx1.mono x1.size)
  have kB1 := (hx1.get H.size (Array.getElem?_eq_some_iff.1 kB).1).trans kB
  obtain ⟨g0, g1, g2⟩ := get3 kB1
  have hv2 := hv1.ext hx1
  simp only [go_sem, ↓reduceIte, Nat.reduceEqDiff, Nat.reduceLeDiff, Nat.reduceAdd, Nat.reduceMul, Nat.reduceSub, Nat.reduceBEq, Nat.reduceGT, Nat.reduceLT, Int.reduceLE, Int.reduceLT, Int.reduceNeg, reduceCtorEq, g0, g1, g2, Option.bind_some]
  refine FunI.by (F10 _ p xs ds H1 hv2) ?_
  rintro _ H2 ⟨rfl, hx2⟩
  have hxb := hxa.trans (hx2.mono hxa.size)
  have kB2 := (hx2.get H.size (Array.getElem?_eq_some_iff.1 kB1).1).trans kB1
  obtain ⟨g0, g1, g2⟩ := get3 kB2
  have hv3 := hv2.ext hx2
  by_cases hfew : xs.length ≤ 5000 ∧ ds.length ≤ 5000
  · simp only [go_sem, ↓reduceIte, Nat.reduceEqDiff, Nat.reduceLeDiff, Nat.reduceAdd, Nat.reduceMul, Nat.reduceSub, Nat.reduceBEq, Nat.reduceGT, Nat.reduceLT, Int.reduceLE, Int.reduceLT, Int.reduceNeg, reduceCtorEq, hfew, and_self, decide_true, g0, g1, g2, Option.bind_some]
    refine FunI.by (F12 _ p xs ds H2 hv3 hfew.1 hfew.2) ?_
    rintro c H3 ⟨hx3, hc⟩
    have hxc := hxb.trans (hx3.mono hxb.size)
    have kB3 := (hx3.get H.size (Array.getElem?_eq_some_iff.1 kB2).1).trans kB2
    have hv4 := hv3.ext hx3
    simp only [go_sem, ↓reduceIte, Nat.reduceEqDiff, Nat.reduceLeDiff, Nat.reduceAdd, Nat.reduceMul, Nat.reduceSub, Nat.reduceBEq, Nat.reduceGT, Nat.reduceLT, Int.reduceLE, Int.reduceLT, Int.reduceNeg, reduceCtorEq]
    refine FunI.by (F11 c gen p xs ds H3 hc) ?_
    rintro r H4 ⟨hx4, hr⟩
    have hxd := hxc.trans (hx4.mono hxc.size)
    have kB4 := (hx4.get H.size (Array.getElem?_eq_some_iff.1 kB3).1).trans kB3
    obtain ⟨g0, g1, g2⟩ := get3 kB4
    have hv5 := hv4.ext hx4
    obtain ⟨h, l, rfl, hh, hl⟩ := enc_form hr
    simp only [go_sem, ↓reduceIte, Nat.reduceEqDiff, Nat.reduceLeDiff, Nat.reduceAdd, Nat.reduceMul, Nat.reduceSub, Nat.reduceBEq, Nat.reduceGT, Nat.reduceLT, Int.reduceLE, Int.reduceLT, Int.reduceNeg, reduceCtorEq, g0, g1, g2, Option.bind_some]
    refine FunI.by (F13 _ gen p xs ds H4 hv5) ?_
    rintro r H5 ⟨hx5, hr⟩
    have hxe := hxd.trans (hx5.mono hxd.size)
    obtain ⟨h', l', rfl, hh', hl'⟩ := enc_form hr
    have hlen := data_len xs ds
    have hlen2 := encL_len (c := mayC gen p xs ds) (xs := chkData xs ds)
    simp only [go_sem, ↓reduceIte, Nat.reduceEqDiff, Nat.reduceLeDiff, Nat.reduceAdd, Nat.reduceMul, Nat.reduceSub, Nat.reduceBEq, Nat.reduceGT, Nat.reduceLT, Int.reduceLE, Int.reduceLT, Int.reduceNeg, reduceCtorEq]
    refine FunI.by (F14 h h' _ _ H5 (hh.ext hx5) hh' (encL_wf (head_wf _ _ _ _)) (encL_wf (head_wf _ _ _ _))) ?_
    rintro _ _ ⟨rfl, rfl⟩
    simp only [go_sem, ↓reduceIte, Nat.reduceEqDiff, Nat.reduceLeDiff, Nat.reduceAdd, Nat.reduceMul, Nat.reduceSub, Nat.reduceBEq, Nat.reduceGT, Nat.reduceLT, Int.reduceLE, Int.reduceLT, Int.reduceNeg, reduceCtorEq]
    refine FunI.by (F15 l l' _ _ H5 (hl.ext hx5) hl' (encL_wfs (data_wf _ _)) (encL_wfs (data_wf _ _)) (by omega)) ?_
    rintro _ _ ⟨rfl, rfl⟩
    simp only [go_sem, ↓reduceIte, Nat.reduceEqDiff, Nat.reduceLeDiff, Nat.reduceAdd, Nat.reduceMul, Nat.reduceSub, Nat.reduceBEq, Nat.reduceGT, Nat.reduceLT, Int.reduceLE, Int.reduceLT, Int.reduceNeg, reduceCtorEq, decide_true]
    refine FunI.by (F16 _ H5) ?_
    rintro _ _ ⟨rfl, rfl⟩
    simp only [go_sem, ↓reduceIte, Nat.reduceEqDiff, Nat.reduceLeDiff, Nat.reduceAdd, Nat.reduceMul, Nat.reduceSub, Nat.reduceBEq, Nat.reduceGT, Nat.reduceLT, Int.reduceLE, Int.reduceLT, Int.reduceNeg, reduceCtorEq, decide_true]
    exact hxe
  · simp only [go_sem, ↓reduceIte, Nat.reduceEqDiff, Nat.reduceLeDiff, Nat.reduceAdd, Nat.reduceMul, Nat.reduceSub, Nat.reduceBEq, Nat.reduceGT, Nat.reduceLT, Int.reduceLE, Int.reduceLT, Int.reduceNeg, reduceCtorEq, hfew, decide_false]
    exact hxb
end Go.Proofs.YtbdclcdoiabapaaDoor
