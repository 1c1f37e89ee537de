/- What is held, made, read. -/
import Derived.Test.YtgigigchjnnonaaGreatDoorVFsB
set_option linter.unusedSimpArgs false
set_option linter.unusedVariables false
set_option maxRecDepth 20000
namespace Go.Proofs.YtgigigchjnnonaaGreatDoor
open Go Go.V
section
variable {H H' H2 : Heap} {F F' : Nat → Prop} {b mb lb hb : Nat} {pv pv' : Value} {dv : Nat → Value} {s : St}
theorem sum_perm {l r : List Int} (h : l.Perm r) : l.sum = r.sum := by
  induction h with
  | nil => rfl
  | cons x _ ih => simp only [List.sum_cons, ih]
  | swap x y l => simp only [List.sum_cons]; omega
  | trans _ _ h1 h2 => exact h1.trans h2
set_option maxHeartbeats 1600000 in
theorem F79 (h : FsP H F b mb lb hb pv dv s) (hr : heldS s ≤ 4611686018427387904) :
    Fun Tryz.prog 79 #[ptrOf b] H (fun r H' => r = .int .i64 (heldS s) ∧ Ext H H') := by
  refine fun_of mixed (args := [_]) Tryz.func79 Tryz.ntmps79 b79 r79 rfl ?_
  obtain ⟨l, c, m, hp⟩ := h.hH
  obtain ⟨g0, g1, g2, g3, g4, g5, g6, g7⟩ := h.get
  have hh := m.lt
  simp only [go_sem, ↓reduceIte, Nat.reduceEqDiff, Nat.reduceLeDiff, Nat.reduceAdd, Nat.reduceMul, Nat.reduceSub, Nat.reduceBEq, Nat.reduceGT, Nat.reduceLT, Int.reduceLE, Int.reduceLT, Int.reduceNeg, reduceCtorEq, ptrOf, g4]
  refine RunI.by (range_run (und_map ty86) m) ?_
  rintro _ _ ⟨rfl, rfl⟩
  simp only [go_sem, ↓reduceIte, Nat.reduceEqDiff, Nat.reduceLeDiff, Nat.reduceAdd, Nat.reduceMul, Nat.reduceSub, Nat.reduceBEq, Nat.reduceGT, Nat.reduceLT, Int.reduceLE, Int.reduceLT, Int.reduceNeg, reduceCtorEq]
  have htot : ((l.map fun e => ((s.dat e.key).length : Int)).sum) = heldS s := by
    have := hp.map fun f => ((s.dat f).length : Int)
    rw [List.map_map] at this
    exact sum_perm this
  refine LoopI.by mixed (fun ρ H' => ∃ (seen : Array Nat) (n : Int), ρ 3 = .int .i64 n ∧ ρ 9 = ptrOf H.size ∧ 0 ≤ n ∧ n + ((unseen l seen).map fun e => ((s.dat e.key).length : Int)).sum = heldS s ∧ MapH ptrOf H' hb l c ∧ IterH H' H.size hb seen c ∧ H.size < H'.size ∧ Ext H H') (fun _ H' => leftN H' H.size hb) ?_ ?_
  · refine ⟨#[], 0, by simp only [go_sem, ↓reduceIte, Nat.reduceEqDiff, Nat.reduceLeDiff, Nat.reduceAdd, Nat.reduceMul, Nat.reduceSub, Nat.reduceBEq, Nat.reduceGT, Nat.reduceLT, Int.reduceLE, Int.reduceLT, Int.reduceNeg, reduceCtorEq], by simp only [go_sem, ↓reduceIte, Nat.reduceEqDiff, Nat.reduceLeDiff, Nat.reduceAdd, Nat.reduceMul, Nat.reduceSub, Nat.reduceBEq, Nat.reduceGT, Nat.reduceLT, Int.reduceLE, Int.reduceLT, Int.reduceNeg, reduceCtorEq], by omega, by rw [unseen_start, htot]; omega, m.keep (push_old hh), push_new, by simp, Ext.push _⟩
  rintro ρ H1 ⟨seen, n, e3, e9, hn, hsum, m', hi, hsz, hx⟩
  simp only [go_sem, ↓reduceIte, Nat.reduceEqDiff, Nat.reduceLeDiff, Nat.reduceAdd, Nat.reduceMul, Nat.reduceSub, Nat.reduceBEq, Nat.reduceGT, Nat.reduceLT, Int.reduceLE, Int.reduceLT, Int.reduceNeg, reduceCtorEq, c79_L0, e9]
  have hmu := leftN_eq m' hi
  refine RunI.by (next_run m' hi) ?_
  rintro _ _ (⟨rfl, rfl, hu⟩ | ⟨e, he, rfl, rfl⟩)
  · rw [hu] at hsum
    have : n = heldS s := by simpa using hsum
    simp only [go_sem, ↓reduceIte, Nat.reduceEqDiff, Nat.reduceLeDiff, Nat.reduceAdd, Nat.reduceMul, Nat.reduceSub, Nat.reduceBEq, Nat.reduceGT, Nat.reduceLT, Int.reduceLE, Int.reduceLT, Int.reduceNeg, reduceCtorEq, e3, this]
    exact hx
  · obtain ⟨hel, hes⟩ := mem_unseen.1 he
    have hpm := unseen_push l m'.nb seen he
    have hs2 := sum_perm (hpm.map fun e => ((s.dat e.key).length : Int))
    rw [List.map_cons, List.sum_cons] at hs2
    have hnn : 0 ≤ ((unseen l (seen.push e.born)).map fun e => ((s.dat e.key).length : Int)).sum := sum_nonneg _ fun x hx => by
      obtain ⟨f, _, rfl⟩ := List.mem_map.1 hx; omega
    have m2 : MapH ptrOf (H1.setIfInBounds H.size (.mapIter (some hb) c (seen.push e.born) c)) hb l c := m'.keep (by rw [Array.getElem?_setIfInBounds, if_neg (by omega)])
    have i2 : IterH (H1.setIfInBounds H.size (.mapIter (some hb) c (seen.push e.born) c)) H.size hb (seen.push e.born) c := by
      unfold IterH; rw [Array.getElem?_setIfInBounds, if_pos rfl, if_pos hsz]
    have k2 : ∀ g, g < H.size → (H1.setIfInBounds H.size (.mapIter (some hb) c (seen.push e.born) c))[g]? = H1[g]? := fun g hg => by rw [Array.getElem?_setIfInBounds, if_neg (by omega)]
    have s2 : (H1.setIfInBounds H.size (.mapIter (some hb) c (seen.push e.born) c)).size = H1.size := by simp
    generalize H1.setIfInBounds H.size (.mapIter (some hb) c (seen.push e.born) c) = H2 at *
    have x2 : Ext H H2 := ⟨by omega, fun g hg => (k2 g hg).trans (hx.get g hg)⟩
    have hm : e.key ∈ s.held := hp.mem_iff.1 (List.mem_map.2 ⟨e, hel, rfl⟩)
    obtain ⟨d0, d1, ⟨a, cap, hd⟩, _⟩ := ((h.ext x2).hf _ hm).at
    rw [hd] at d0
    simp only [go_sem, ↓reduceIte, Nat.reduceEqDiff, Nat.reduceLeDiff, Nat.reduceAdd, Nat.reduceMul, Nat.reduceSub, Nat.reduceBEq, Nat.reduceGT, Nat.reduceLT, Int.reduceLE, Int.reduceLT, Int.reduceNeg, reduceCtorEq, e9]
    refine OpSI.value (entry_run m2 i2 hel) ?_
    rintro _ _ ⟨rfl, rfl⟩
    have w1 : IntKind.i64.wrap (n + ((s.dat e.key).length : Int)) = n + ((s.dat e.key).length : Int) := w64_id (by omega) (by omega)
    simp only [go_sem, ↓reduceIte, Nat.reduceEqDiff, Nat.reduceLeDiff, Nat.reduceAdd, Nat.reduceMul, Nat.reduceSub, Nat.reduceBEq, Nat.reduceGT, Nat.reduceLT, Int.reduceLE, Int.reduceLT, Int.reduceNeg, reduceCtorEq, e3, ptrOf, d0, w1]
    refine ⟨Hold.mk ⟨seen.push e.born, n + ((s.dat e.key).length : Int), by simp only [go_sem, ↓reduceIte, Nat.reduceEqDiff, Nat.reduceLeDiff, Nat.reduceAdd, Nat.reduceMul, Nat.reduceSub, Nat.reduceBEq, Nat.reduceGT, Nat.reduceLT, Int.reduceLE, Int.reduceLT, Int.reduceNeg, reduceCtorEq], by simp only [go_sem, ↓reduceIte, Nat.reduceEqDiff, Nat.reduceLeDiff, Nat.reduceAdd, Nat.reduceMul, Nat.reduceSub, Nat.reduceBEq, Nat.reduceGT, Nat.reduceLT, Int.reduceLE, Int.reduceLT, Int.reduceNeg, reduceCtorEq, e9], by omega, by omega, m2, i2, by omega, x2⟩, ?_⟩
    rw [leftN_eq m2 i2, hmu, hpm.length_eq]
    simp
/-- A new file system. -/
def freshS (room : Int) : St := ⟨room, fun _ => none, fun _ => none, [], [], false, 0, 0, fun _ => [], fun _ => 0⟩
theorem fresh_ok {room : Int} (h : 0 ≤ room ∧ room ≤ 2147483647) : Ok (freshS room) := by
  refine ⟨h, ?_, ?_, ?_, ?_, ?_, ?_, ?_, ?_, ?_, ?_, ?_, ?_, ?_, ?_, ?_⟩ <;> simp [freshS, heldS] <;> omega
set_option maxHeartbeats 800000 in
theorem F7 (room : Int) (H : Heap) (hH : True) :
    Fun Tryz.prog 7 #[.int .i64 room] H (fun r H' => Ext H H' ∧ if room < 0 ∨ 2147483647 < room then r = .pointer none else ∃ b F, r = ptrOf b ∧ FsH H' F b (freshS room) ∧ ∀ g, F g → H.size ≤ g) := by
  refine fun_of mixed (args := [_]) Tryz.func7 Tryz.ntmps7 b7 r7 rfl ?_
  by_cases c0 : room < 0
  · simp only [go_sem, ↓reduceIte, Nat.reduceEqDiff, Nat.reduceLeDiff, Nat.reduceAdd, Nat.reduceMul, Nat.reduceSub, Nat.reduceBEq, Nat.reduceGT, Nat.reduceLT, Int.reduceLE, Int.reduceLT, Int.reduceNeg, reduceCtorEq, c0, true_or]
    exact Upto.refl _ _
  by_cases c1 : 2147483647 < room
  · simp only [go_sem, ↓reduceIte, Nat.reduceEqDiff, Nat.reduceLeDiff, Nat.reduceAdd, Nat.reduceMul, Nat.reduceSub, Nat.reduceBEq, Nat.reduceGT, Nat.reduceLT, Int.reduceLE, Int.reduceLT, Int.reduceNeg, reduceCtorEq, c0, c1, or_true]
    exact Upto.refl _ _
  simp only [go_sem, ↓reduceIte, Nat.reduceEqDiff, Nat.reduceLeDiff, Nat.reduceAdd, Nat.reduceMul, Nat.reduceSub, Nat.reduceBEq, Nat.reduceGT, Nat.reduceLT, Int.reduceLE, Int.reduceLT, Int.reduceNeg, reduceCtorEq, c0, c1, or_self]
  refine RunI.by makeMap_run ?_
  rintro _ _ ⟨rfl, rfl⟩
  simp only [go_sem, ↓reduceIte, Nat.reduceEqDiff, Nat.reduceLeDiff, Nat.reduceAdd, Nat.reduceMul, Nat.reduceSub, Nat.reduceBEq, Nat.reduceGT, Nat.reduceLT, Int.reduceLE, Int.reduceLT, Int.reduceNeg, reduceCtorEq]
  refine RunI.by makeMap_run ?_
  rintro _ _ ⟨rfl, rfl⟩
  simp only [go_sem, ↓reduceIte, Nat.reduceEqDiff, Nat.reduceLeDiff, Nat.reduceAdd, Nat.reduceMul, Nat.reduceSub, Nat.reduceBEq, Nat.reduceGT, Nat.reduceLT, Int.reduceLE, Int.reduceLT, Int.reduceNeg, reduceCtorEq]
  refine RunI.by makeMap_run ?_
  rintro _ _ ⟨rfl, rfl⟩
  simp only [go_sem, ↓reduceIte, Nat.reduceEqDiff, Nat.reduceLeDiff, Nat.reduceAdd, Nat.reduceMul, Nat.reduceSub, Nat.reduceBEq, Nat.reduceGT, Nat.reduceLT, Int.reduceLE, Int.reduceLT, Int.reduceNeg, reduceCtorEq]
  simp only [Array.size_push]
  rw [if_neg (by omega)]
  have e0 : ((((H.push (.map #[] 0)).push (.map #[] 0)).push (.map #[] 0)).push (.cells (stC (freshS room) H.size (H.size + 1) (H.size + 1 + 1) (.slice none 0 0)) 89)) = ((((H.push (.map #[] 0)).push (.map #[] 0)).push (.map #[] 0)).push (.cells #[.int .i64 room, .map (some H.size), .map (some (H.size + 1)), .slice none 0 0, .map (some (H.size + 1 + 1)), .bool false, .int .i64 0, .int .i64 0] 89)) := rfl
  rw [← e0]
  have x1 : Ext H ((((H.push (.map #[] 0)).push (.map #[] 0)).push (.map #[] 0)).push (.cells (stC (freshS room) H.size (H.size + 1) (H.size + 1 + 1) (.slice none 0 0)) 89)) :=
    (((Ext.push _).trans ((Ext.push _).mono (by simp <;> omega))).trans ((Ext.push _).mono (by simp <;> omega))).trans ((Ext.push _).mono (by simp <;> omega))
  have b3 : ((((H.push (.map #[] 0)).push (.map #[] 0)).push (.map #[] 0)).push (.cells (stC (freshS room) H.size (H.size + 1) (H.size + 1 + 1) (.slice none 0 0)) 89))[H.size + 1 + 1 + 1]? = some (.cells (stC (freshS room) H.size (H.size + 1) (H.size + 1 + 1) (.slice none 0 0)) 89) := by
    have := push_new (H := ((H.push (.map #[] 0)).push (.map #[] 0)).push (.map #[] 0)) (x := .cells (stC (freshS room) H.size (H.size + 1) (H.size + 1 + 1) (.slice none 0 0)) 89)
    simpa using this
  have b2 : ((((H.push (.map #[] 0)).push (.map #[] 0)).push (.map #[] 0)).push (.cells (stC (freshS room) H.size (H.size + 1) (H.size + 1 + 1) (.slice none 0 0)) 89))[H.size + 1 + 1]? = some (.map #[] 0) := by
    rw [push_old (by simp)]
    have := push_new (H := (H.push (.map #[] 0)).push (.map #[] 0)) (x := .map #[] 0)
    simpa using this
  have b1 : ((((H.push (.map #[] 0)).push (.map #[] 0)).push (.map #[] 0)).push (.cells (stC (freshS room) H.size (H.size + 1) (H.size + 1 + 1) (.slice none 0 0)) 89))[H.size + 1]? = some (.map #[] 0) := by
    rw [push_old (by simp <;> omega), push_old (by simp)]
    have := push_new (H := H.push (.map #[] 0)) (x := .map #[] 0)
    simpa using this
  have b0 : ((((H.push (.map #[] 0)).push (.map #[] 0)).push (.map #[] 0)).push (.cells (stC (freshS room) H.size (H.size + 1) (H.size + 1 + 1) (.slice none 0 0)) 89))[H.size]? = some (.map #[] 0) := by
    rw [push_old (by simp <;> omega), push_old (by simp <;> omega), push_old (by simp)]
    exact push_new
  have hsz : ((((H.push (.map #[] 0)).push (.map #[] 0)).push (.map #[] 0)).push (.cells (stC (freshS room) H.size (H.size + 1) (H.size + 1 + 1) (.slice none 0 0)) 89)).size = H.size + 4 := by simp
  generalize ((((H.push (.map #[] 0)).push (.map #[] 0)).push (.map #[] 0)).push (.cells (stC (freshS room) H.size (H.size + 1) (H.size + 1 + 1) (.slice none 0 0)) 89)) = H1 at *
  have mp : ∀ {κ : Type} [DecidableEq κ] (kf : κ → Value) {g : Nat}, H1[g]? = some (.map #[] 0) → MapH kf H1 g ([] : List (Ent κ)) 0 := fun kf g hg => ⟨hg, by simp, by simp, by simp⟩
  refine ⟨x1, H.size + 1 + 1 + 1, fun g => H.size ≤ g ∧ g < H.size + 4, rfl, ⟨H.size, H.size + 1, H.size + 1 + 1, .slice none 0 0, fun _ => .slice none 0 0, ⟨b3, ⟨[], 0, mp _ b0, fun n => rfl⟩, ⟨[], 0, mp _ b1, fun n => rfl⟩, ⟨[], 0, mp _ b2, List.Perm.refl _⟩, ⟨[], Own.nil, trivial⟩, ?_, ?_, ⟨by omega, by omega, by omega⟩, ⟨by omega, by omega⟩, ⟨by omega, by omega⟩, ⟨by omega, by omega⟩, ⟨by omega, by omega⟩, fun g hg => by simp [blk] at hg, fun g hg => by omega⟩⟩, fun g hg => hg.1⟩
  · intro f hf; cases hf
  · intro f hf; cases hf
theorem find_cases (s : St) (n : Nm) : (∃ e, findS s n = (none, e) ∧ e ≠ 0) ∨ ∃ x, findS s n = (some x, 0) ∧ s.now n = some x ∧ beginS s [n] = 0 := by
  unfold findS
  by_cases h : beginS s [n] = 0
  · rw [if_neg (by simp [h])]
    cases hx : s.now n with
    | none => exact .inl ⟨82, rfl, by decide⟩
    | some x => exact .inr ⟨x, rfl, rfl, h⟩
  · rw [if_pos h]
    exact .inl ⟨_, rfl, h⟩
set_option maxHeartbeats 800000 in
theorem F193 (h : FsP H F b mb lb hb pv dv s) (hn : ∀ m f, s.now m = some f → f ∈ s.held) (n : Nm) :
    Fun Tryz.prog 193 #[ptrOf b, .string n] H (fun r H' => r = .tuple #[.int .i64 (sizeS s n).1, .int .i64 (sizeS s n).2] ∧ Ext H H') := by
  refine fun_of mixed (args := [_, _]) Tryz.func193 Tryz.ntmps193 b193 r193 rfl ?_
  simp only [go_sem, ↓reduceIte, Nat.reduceEqDiff, Nat.reduceLeDiff, Nat.reduceAdd, Nat.reduceMul, Nat.reduceSub, Nat.reduceBEq, Nat.reduceGT, Nat.reduceLT, Int.reduceLE, Int.reduceLT, Int.reduceNeg, reduceCtorEq]
  refine FunI.by (F178 h n) ?_
  rintro _ H1 ⟨rfl, x1⟩
  rcases find_cases s n with ⟨e, hf, he⟩ | ⟨x, hf, hx, _⟩
  · have e2 : sizeS s n = (0, e) := by unfold sizeS; rw [hf]
    rw [e2, hf]
    simp only [go_sem, ↓reduceIte, Nat.reduceEqDiff, Nat.reduceLeDiff, Nat.reduceAdd, Nat.reduceMul, Nat.reduceSub, Nat.reduceBEq, Nat.reduceGT, Nat.reduceLT, Int.reduceLE, Int.reduceLT, Int.reduceNeg, reduceCtorEq, he]
    exact x1
  · have e2 : sizeS s n = (((s.dat x).length : Int), 0) := by unfold sizeS; rw [hf]
    obtain ⟨d0, d1, ⟨a, cap, hd⟩, _⟩ := ((h.ext x1).hf _ (hn _ _ hx)).at
    rw [hd] at d0
    rw [e2, hf]
    simp only [go_sem, ↓reduceIte, Nat.reduceEqDiff, Nat.reduceLeDiff, Nat.reduceAdd, Nat.reduceMul, Nat.reduceSub, Nat.reduceBEq, Nat.reduceGT, Nat.reduceLT, Int.reduceLE, Int.reduceLT, Int.reduceNeg, reduceCtorEq, ptrOf, d0]
    exact x1
set_option maxHeartbeats 800000 in
theorem F198 {v : Value} {xs : List Int} (hv : Ints H 5 .u8 v xs) (hl : xs.length ≤ 140737488355328) :
    Fun Tryz.prog 198 #[v] H (fun r H' => V.Own H' H.size 5 1 r (xs.map (.int .u8)) ∧ Ext H H') := by
  obtain ⟨a, cap, rfl⟩ := hv.form
  refine fun_of mixed (args := [_]) Tryz.func198 Tryz.ntmps198 b198 r198 rfl ?_
  cases a with
  | none =>
    have : xs = [] := by
      cases xs with
      | nil => rfl
      | cons x xs => obtain ⟨b, o, h⟩ := hv.at (i := 0) (by simp); cases h
    subst this
    simp only [go_sem, ↓reduceIte, Nat.reduceEqDiff, Nat.reduceLeDiff, Nat.reduceAdd, Nat.reduceMul, Nat.reduceSub, Nat.reduceBEq, Nat.reduceGT, Nat.reduceLT, Int.reduceLE, Int.reduceLT, Int.reduceNeg, reduceCtorEq, List.length_nil]
    exact ⟨.inl ⟨rfl, rfl⟩, Upto.refl _ _⟩
  | some a =>
    have hv1 : Ints (H.push (.cells #[] 5)) 5 .u8 (.slice (some a) xs.length cap) xs := hv.ext (Ext.push _)
    have ho : V.Own (H.push (.cells #[] 5)) H.size 5 1 (.slice (some ⟨H.size, 0, none⟩) 0 0) [] := .inr ⟨H.size, 0, 0, #[], rfl, Nat.le_refl _, push_new, Nat.le_refl _, by simp [maxLen], rfl, rfl, rfl⟩
    simp only [go_sem, ↓reduceIte, Nat.reduceEqDiff, Nat.reduceLeDiff, Nat.reduceAdd, Nat.reduceMul, Nat.reduceSub, Nat.reduceBEq, Nat.reduceGT, Nat.reduceLT, Int.reduceLE, Int.reduceLT, Int.reduceNeg, reduceCtorEq]
    refine RunI.by (append_own ty53 ty5 rfl rfl rfl (by decide) ho hv1 (by intro u hu; obtain ⟨x, _, rfl⟩ := List.mem_map.1 hu; rfl) (n := xs.length) (by simp) (by show xs.length * 1 ≤ _; omega) (by omega) (by simp)) ?_
    rintro v' H1 ⟨o1, b1, _, _⟩
    simp only [go_sem, ↓reduceIte, Nat.reduceEqDiff, Nat.reduceLeDiff, Nat.reduceAdd, Nat.reduceMul, Nat.reduceSub, Nat.reduceBEq, Nat.reduceGT, Nat.reduceLT, Int.reduceLE, Int.reduceLT, Int.reduceNeg, reduceCtorEq]
    refine ⟨by simpa using o1, ⟨by have := b1.size; simp at this; omega, fun g hg => ?_⟩⟩
    rw [b1.get g (by simp; omega) (by simp [blk]; omega), push_old hg]
set_option maxHeartbeats 1600000 in
theorem F194 (h : FsP H F b mb lb hb pv dv s) (ok : Ok s) (n : Nm) (at' k : Int) (hk : k < 9223372036854775808) :
    Fun Tryz.prog 194 #[ptrOf b, .string n, .int .i64 at', .int .i64 k] H (fun r H' => ∃ v, r = .tuple #[v, .int .i64 (readS s n at' k).2] ∧ V.Own H' H.size 5 1 v ((readS s n at' k).1.map (.int .u8)) ∧ Ext H H') := by
  refine fun_of mixed (args := [_, _, _, _]) Tryz.func194 Tryz.ntmps194 b194 r194 rfl ?_
  simp only [go_sem, ↓reduceIte, Nat.reduceEqDiff, Nat.reduceLeDiff, Nat.reduceAdd, Nat.reduceMul, Nat.reduceSub, Nat.reduceBEq, Nat.reduceGT, Nat.reduceLT, Int.reduceLE, Int.reduceLT, Int.reduceNeg, reduceCtorEq]
  refine FunI.by (F178 h n) ?_
  rintro _ H1 ⟨rfl, x1⟩
  rcases find_cases s n with ⟨e, hf, he⟩ | ⟨x, hf, hx, _⟩
  · have e2 : readS s n at' k = ([], e) := by unfold readS; rw [hf]
    rw [e2, hf]
    simp only [go_sem, ↓reduceIte, Nat.reduceEqDiff, Nat.reduceLeDiff, Nat.reduceAdd, Nat.reduceMul, Nat.reduceSub, Nat.reduceBEq, Nat.reduceGT, Nat.reduceLT, Int.reduceLE, Int.reduceLT, Int.reduceNeg, reduceCtorEq, he]
    exact ⟨_, rfl, Own.nil, x1⟩
  have hxh := ok.nowH _ _ hx
  have hdl := dat_le ok hxh
  have hroom := ok.room
  obtain ⟨d0, d1, ⟨a, cap, hd⟩, d3⟩ := ((h.ext x1).hf _ hxh).at
  rw [hd] at d0 d3
  rw [hf]
  by_cases c0 : at' < 0
  · have e2 : readS s n at' k = ([], 85) := by unfold readS; rw [hf]; exact if_pos (.inl c0)
    rw [e2]
    simp only [go_sem, ↓reduceIte, Nat.reduceEqDiff, Nat.reduceLeDiff, Nat.reduceAdd, Nat.reduceMul, Nat.reduceSub, Nat.reduceBEq, Nat.reduceGT, Nat.reduceLT, Int.reduceLE, Int.reduceLT, Int.reduceNeg, reduceCtorEq, ptrOf, c0]
    exact ⟨_, rfl, Own.nil, x1⟩
  by_cases c1 : k < 0
  · have e2 : readS s n at' k = ([], 85) := by unfold readS; rw [hf]; exact if_pos (.inr c1)
    rw [e2]
    simp only [go_sem, ↓reduceIte, Nat.reduceEqDiff, Nat.reduceLeDiff, Nat.reduceAdd, Nat.reduceMul, Nat.reduceSub, Nat.reduceBEq, Nat.reduceGT, Nat.reduceLT, Int.reduceLE, Int.reduceLT, Int.reduceNeg, reduceCtorEq, ptrOf, c0, c1]
    exact ⟨_, rfl, Own.nil, x1⟩
  have e2 : readS s n at' k = (((s.dat x).drop at'.toNat).take k.toNat, 0) := by unfold readS; rw [hf]; exact if_neg (by rintro (h | h) <;> omega)
  rw [e2]
  obtain ⟨lo, hlo⟩ : ∃ lo, lo = min at'.toNat (s.dat x).length := ⟨_, rfl⟩
  obtain ⟨mn, hmn⟩ : ∃ mn, mn = min k.toNat ((s.dat x).length - lo) := ⟨_, rfl⟩
  have e1 : (if ((s.dat x).length : Int) < at' then ((s.dat x).length : Int) else at') = (lo : Int) := by split <;> omega
  have w1 : IntKind.i64.wrap (((s.dat x).length : Int) - (lo : Int)) = (((s.dat x).length - lo : Nat) : Int) := by rw [w64_id (by omega) (by omega)]; omega
  have e3 : (if (((s.dat x).length - lo : Nat) : Int) < k then (((s.dat x).length - lo : Nat) : Int) else k) = (mn : Int) := by split <;> omega
  have w2 : IntKind.i64.wrap ((lo : Int) + (mn : Int)) = ((lo + mn : Nat) : Int) := by rw [w64_id (by omega) (by omega)]; omega
  have hcap : (s.dat x).length ≤ cap := Sl.lecap d3
  have z1 : (0 : Int) ≤ ((lo + mn : Nat) : Int) := by omega
  have z2 : ((lo + mn : Nat) : Int) ≤ cap := by omega
  have z3 : (0 : Int) ≤ (lo : Int) := by omega
  have z4 : (lo : Int) ≤ ((lo + mn : Nat) : Int) := by omega
  have hsub := Sl.sub d3 (l := lo) (h := lo + mn) (m := cap) (by omega) (by omega) (by omega)
  have hlist : (((s.dat x).map (Value.int .u8)).drop (lo * 1)).take ((lo + mn - lo) * 1) = (((s.dat x).drop at'.toNat).take k.toNat).map (.int .u8) := by
    rw [Nat.mul_one, Nat.mul_one, Nat.add_sub_cancel_left, ← List.map_drop, ← List.map_take]
    congr 1
    by_cases hge : (s.dat x).length ≤ at'.toNat
    · have : lo = (s.dat x).length := by omega
      rw [this, List.drop_eq_nil_of_le hge, List.drop_length]; simp
    · have : lo = at'.toNat := by omega
      rw [this]
      apply List.ext_getElem?
      intro i
      rw [List.getElem?_take, List.getElem?_take]
      by_cases hi : i < mn
      · rw [if_pos hi, if_pos (by omega)]
      · rw [if_neg hi]
        by_cases hi2 : i < k.toNat
        · rw [if_pos hi2, List.getElem?_eq_none (by simp; omega)]
        · rw [if_neg hi2]
  rw [hlist] at hsub
  simp only [Nat.mul_one, Nat.add_sub_cancel_left] at hsub
  simp only [go_sem, ↓reduceIte, Nat.reduceEqDiff, Nat.reduceLeDiff, Nat.reduceAdd, Nat.reduceMul, Nat.reduceSub, Nat.reduceBEq, Nat.reduceGT, Nat.reduceLT, Int.reduceLE, Int.reduceLT, Int.reduceNeg, reduceCtorEq, ptrOf, c0, c1, d0, e1, w1, e3, w2, z1, z2, z3, z4, Int.toNat_natCast, Nat.add_sub_cancel_left]
  refine FunI.by (F198 hsub (by rw [List.length_take, List.length_drop]; omega)) ?_
  rintro v H2 ⟨o1, x2⟩
  simp only [go_sem, ↓reduceIte, Nat.reduceEqDiff, Nat.reduceLeDiff, Nat.reduceAdd, Nat.reduceMul, Nat.reduceSub, Nat.reduceBEq, Nat.reduceGT, Nat.reduceLT, Int.reduceLE, Int.reduceLT, Int.reduceNeg, reduceCtorEq]
  refine ⟨v, rfl, o1.mono x1.size, x1.trans (x2.mono x1.size)⟩
end
end Go.Proofs.YtgigigchjnnonaaGreatDoor
