/- An operation on the directory. -/
import Derived.Test.YtgigigchjnnonaaGreatDoorVFsA
set_option linter.unusedSimpArgs false
set_option linter.unusedVariables false
set_option maxRecDepth 20000
namespace Go.V
open Go
theorem ptr_eq_run {P : Program} {H : Heap} {t te : TypeId} {j : TypeInfo} {xo yo : Operand} {a b : Nat} (ht : P.underlying t = some (.pointer te)) (hte : P.info? te = some j) (hsz : j.size ≠ 0) (ha : Stands H a) (hb : Stands H b) :
    RunS P (sBinOp .eql t xo yo (ptrOf a) (ptrOf b)) H (fun v H' => v = .bool (decide (a = b)) ∧ H = H') := by
  intro w hw
  subst hw
  have hg : (eqGuard .eql t xo yo (ptrOf a) (ptrOf b)).run P w = .ok () w := rfl
  refine ⟨.bool (decide (a = b)), w, ?_, Same.refl _, rfl, rfl⟩
  unfold sBinOp
  rw [Sem.run_bind, hg, Result.andThen_ok]
  by_cases h : a = b
  · subst h
    rw [show decide (a = a) = true by simp]
    exact run_eql_ptr_same w ⟨a, 0, none⟩ ht hte
  · obtain ⟨ca, ta, h1⟩ := ha
    obtain ⟨cb, tb, h2⟩ := hb
    rw [show decide (a = b) = false by simp [h]]
    exact run_eql_ptr_other w (a := ⟨a, 0, none⟩) (b := ⟨b, 0, none⟩) ht hte hsz (by simpa using h) h1 h2
def leftN (H : Heap) (r b : Nat) : Nat := match H[r]?, H[b]? with
  | some (.mapIter _ _ seen _), some (.map es _) => (leftOf es seen).size
  | _, _ => 0
theorem leftN_eq {κ : Type} [DecidableEq κ] {kf : κ → Value} {H : Heap} {r b clock : Nat} {seen : Array Nat} {l : List (Ent κ)} (h : MapH kf H b l clock) (hi : IterH H r b seen clock) : leftN H r b = (unseen l seen).length := by
  unfold leftN
  rw [show H[r]? = _ from hi, h.hb]
  have hL : leftOf (entsA kf l) seen = ((unseen l seen).map (ent kf)).toArray := by
    unfold leftOf unseen entsA
    rw [List.filter_toArray, List.filter_map]
    rfl
  simp only [hL, List.size_toArray, List.length_map]
theorem getM_congr {κ : Type} [DecidableEq κ] {l : List (Ent κ)} {n : κ} {f : Option Nat} (hn : (l.map (·.key)).Nodup) (h : ∀ x : Nat, f = some x ↔ ∃ e ∈ l, e.key = n ∧ e.val = ptrOf x) (hv : ∀ e ∈ l, ∃ x, e.val = ptrOf x) : getM l n = f.map ptrOf := by
  cases hf : f with
  | none =>
    rw [Option.map_none, getM_none]
    intro hm
    obtain ⟨e, he, rfl⟩ := List.mem_map.1 hm
    obtain ⟨x, hx⟩ := hv e he
    have := (h x).2 ⟨e, he, rfl, hx⟩
    rw [hf] at this; cases this
  | some x => exact (getM_mem hn).2 ((h x).1 hf)
theorem nodup_map_inj {α β : Type} {f : α → β} {l : List α} (hn : (l.map f).Nodup) {a b : α} (ha : a ∈ l) (hb : b ∈ l) (h : f a = f b) : a = b := by
  obtain ⟨i, hi, rfl⟩ := List.getElem_of_mem ha
  obtain ⟨k, hk, rfl⟩ := List.getElem_of_mem hb
  have := nodup_inj hn (i := i) (j := k) (a := f l[k]) (by simp [hi, h]) (by simp [hk])
  subst this; rfl
theorem ptrOf_inj {a b : Nat} (h : ptrOf a = ptrOf b) : a = b := by
  unfold ptrOf at h
  injection h with h
  injection h with h
  injection h
theorem str_eq (a b : ByteArray) : (a.toList == b.toList) = decide (a = b) := by
  rw [toList_data, toList_data, Bool.eq_iff_iff, beq_iff_eq, decide_eq_true_eq]
  exact ⟨fun h => by cases a; cases b; simp only at h; rw [Array.toList_inj.1 h], fun h => by rw [h]⟩
end Go.V
namespace Go.Proofs.YtgigigchjnnonaaGreatDoor
open Go Go.V
theorem DirH.lt {H : Heap} {b : Nat} {D : Dir} (h : DirH H b D) : b < H.size := let ⟨_, _, h, _⟩ := h; h.lt
theorem DirH.vals {H : Heap} {b c : Nat} {D : Dir} {l : List (Ent Nm)} (m : MapH Value.string H b l c) (hg : ∀ n, getM l n = (D n).map ptrOf) : ∀ e ∈ l, ∃ x, D e.key = some x ∧ e.val = ptrOf x := by
  intro e he
  have := (getM_mem (n := e.key) (v := e.val) m.nk).2 ⟨e, he, rfl, rfl⟩
  rw [hg, Option.map_eq_some_iff] at this
  obtain ⟨x, h1, h2⟩ := this
  exact ⟨x, h1, h2.symm⟩
set_option maxHeartbeats 3200000 in
theorem F269 {H : Heap} {mb c1 c2 x : Nat} {D : Dir} {n : Nm} (h : DirH H mb D) (h1 : H[c1]? = some (.cells #[ptrOf x] 115)) (h2 : H[c2]? = some (.cells #[.string n] 9)) (hx : Stands H x) (hD : ∀ m f, D m = some f → Stands H f) :
    Fun Tryz.prog 269 #[.map (some mb), ptrOf c1, ptrOf c2] H (fun r H' => DirH H' mb (moveD D x n) ∧ H.size ≤ H'.size ∧ ∀ g, g < H.size → g ≠ mb → H'[g]? = H[g]?) := by
  refine fun_of mixed (args := [_, _, _]) Tryz.func269 Tryz.ntmps269 b269 r269 rfl ?_
  obtain ⟨l, c, m, hg⟩ := h
  have hv := DirH.vals m hg
  have hmb := m.lt
  have n1 := map_ne h1 m.hb
  have n2 := map_ne h2 m.hb
  have l1 : c1 < H.size := (Array.getElem?_eq_some_iff.1 h1).1
  have l2 : c2 < H.size := (Array.getElem?_eq_some_iff.1 h2).1
  simp only [go_sem, ↓reduceIte, Nat.reduceEqDiff, Nat.reduceLeDiff, Nat.reduceAdd, Nat.reduceMul, Nat.reduceSub, Nat.reduceBEq, Nat.reduceGT, Nat.reduceLT, Int.reduceLE, Int.reduceLT, Int.reduceNeg, reduceCtorEq]
  refine RunI.by (range_run (und_map ty85) m) ?_
  rintro _ _ ⟨rfl, rfl⟩
  simp only [go_sem, ↓reduceIte, Nat.reduceEqDiff, Nat.reduceLeDiff, Nat.reduceAdd, Nat.reduceMul, Nat.reduceSub, Nat.reduceBEq, Nat.reduceGT, Nat.reduceLT, Int.reduceLE, Int.reduceLT, Int.reduceNeg, reduceCtorEq]
  refine LoopI.by mixed (fun ρ H' => ∃ (seen : Array Nat) (l' : List (Ent Nm)), ρ 0 = .map (some mb) ∧ ρ 1 = ptrOf c1 ∧ ρ 2 = ptrOf c2 ∧ ρ 7 = ptrOf H.size ∧ MapH Value.string H' mb l' c ∧ IterH H' H.size mb seen c ∧
    (∀ e, e ∈ l' ↔ e ∈ l ∧ ¬ (seen.contains e.born = true ∧ e.val = ptrOf x)) ∧ H.size < H'.size ∧ ∀ g, g < H.size → g ≠ mb → H'[g]? = H[g]?) (fun _ H' => leftN H' H.size mb) ?_ ?_
  · refine ⟨#[], l, by simp only [go_sem, ↓reduceIte, Nat.reduceEqDiff, Nat.reduceLeDiff, Nat.reduceAdd, Nat.reduceMul, Nat.reduceSub, Nat.reduceBEq, Nat.reduceGT, Nat.reduceLT, Int.reduceLE, Int.reduceLT, Int.reduceNeg, reduceCtorEq], by simp only [go_sem, ↓reduceIte, Nat.reduceEqDiff, Nat.reduceLeDiff, Nat.reduceAdd, Nat.reduceMul, Nat.reduceSub, Nat.reduceBEq, Nat.reduceGT, Nat.reduceLT, Int.reduceLE, Int.reduceLT, Int.reduceNeg, reduceCtorEq], by simp only [go_sem, ↓reduceIte, Nat.reduceEqDiff, Nat.reduceLeDiff, Nat.reduceAdd, Nat.reduceMul, Nat.reduceSub, Nat.reduceBEq, Nat.reduceGT, Nat.reduceLT, Int.reduceLE, Int.reduceLT, Int.reduceNeg, reduceCtorEq], by simp only [go_sem, ↓reduceIte, Nat.reduceEqDiff, Nat.reduceLeDiff, Nat.reduceAdd, Nat.reduceMul, Nat.reduceSub, Nat.reduceBEq, Nat.reduceGT, Nat.reduceLT, Int.reduceLE, Int.reduceLT, Int.reduceNeg, reduceCtorEq], m.keep (push_old hmb), push_new, fun e => by simp, by simp, fun g hg _ => push_old hg⟩
  rintro ρ H1 ⟨seen, l', e0, e1, e2, e7, m', hi, hl, hsz, hk⟩
  simp only [go_sem, ↓reduceIte, Nat.reduceEqDiff, Nat.reduceLeDiff, Nat.reduceAdd, Nat.reduceMul, Nat.reduceSub, Nat.reduceBEq, Nat.reduceGT, Nat.reduceLT, Int.reduceLE, Int.reduceLT, Int.reduceNeg, reduceCtorEq, c269_L0, e0, e7]
  have hmu := leftN_eq m' hi
  refine RunI.by (next_run m' hi) ?_
  rintro _ _ (⟨rfl, rfl, hu⟩ | ⟨e, he, rfl, rfl⟩)
  · -- the end
    have hall : ∀ e ∈ l', seen.contains e.born = true := fun e he => by
      cases hs : seen.contains e.born with
      | true => rfl
      | false => have := mem_unseen.2 ⟨he, hs⟩; rw [hu] at this; cases this
    have hD2 : ∀ k, getM l' k = (if D k = some x then none else D k).map ptrOf := fun k => getM_congr m'.nk (fun y => by
      constructor
      · intro hy
        by_cases hkx : D k = some x
        · rw [if_pos hkx] at hy; cases hy
        · rw [if_neg hkx] at hy
          have : getM l k = some (ptrOf y) := by rw [hg, hy]; rfl
          obtain ⟨e, he, rfl, h4⟩ := (getM_mem m.nk).1 this
          refine ⟨e, (hl e).2 ⟨he, fun hc => hkx ?_⟩, rfl, h4⟩
          rw [hy]; rw [← ptrOf_inj (h4.symm.trans hc.2)]
      · rintro ⟨e, he, rfl, h4⟩
        obtain ⟨h5, h6⟩ := (hl e).1 he
        obtain ⟨z, h7, h8⟩ := hv e h5
        have hzy := ptrOf_inj (h8.symm.trans h4)
        subst hzy
        rw [if_neg fun hc => h6 ⟨hall e he, by rw [h8]; rw [h7] at hc; injection hc with hc; rw [hc]⟩, h7]) fun e he => by
      obtain ⟨z, _, h8⟩ := hv e ((hl e).1 he).1
      exact ⟨z, h8⟩
    have g1 : hget H1 c1 0 = some (ptrOf x) := by rw [hget_cells (by rw [hk c1 l1 n1]; exact h1)]; rfl
    have g2 : hget H1 c2 0 = some (.string n) := by rw [hget_cells (by rw [hk c2 l2 n2]; exact h2)]; rfl
    by_cases hn : n = emptyNm
    · have : (ByteArray.toList n == ByteArray.toList ⟨#[]⟩) = true := by rw [str_eq, hn]; simp [emptyNm]; rfl
      simp only [go_sem, ↓reduceIte, Nat.reduceEqDiff, Nat.reduceLeDiff, Nat.reduceAdd, Nat.reduceMul, Nat.reduceSub, Nat.reduceBEq, Nat.reduceGT, Nat.reduceLT, Int.reduceLE, Int.reduceLT, Int.reduceNeg, reduceCtorEq, e2, ptrOf, g2, this]
      refine ⟨⟨l', c, m', fun k => ?_⟩, Nat.le_of_lt hsz, hk⟩
      rw [hD2 k]
      unfold moveD
      rw [if_neg (c := k = n ∧ n ≠ emptyNm) (fun h => h.2 hn)]
    · have : (ByteArray.toList n == ByteArray.toList ⟨#[]⟩) = false := by
        rw [str_eq, decide_eq_false_iff_not]
        exact fun h => hn h
      simp only [go_sem, ↓reduceIte, Nat.reduceEqDiff, Nat.reduceLeDiff, Nat.reduceAdd, Nat.reduceMul, Nat.reduceSub, Nat.reduceBEq, Nat.reduceGT, Nat.reduceLT, Int.reduceLE, Int.reduceLT, Int.reduceNeg, reduceCtorEq, e0, e1, e2, ptrOf, g1, g2, this]
      refine OpSI.skip (update_run (keyed_str (und_str ty9)) (und_map ty85) m' n (ptrOf x) trivial fun _ _ => trivial) ?_
      rintro H2 ⟨c', m2, h3, h4⟩
      simp only [go_sem, ↓reduceIte, Nat.reduceEqDiff, Nat.reduceLeDiff, Nat.reduceAdd, Nat.reduceMul, Nat.reduceSub, Nat.reduceBEq, Nat.reduceGT, Nat.reduceLT, Int.reduceLE, Int.reduceLT, Int.reduceNeg, reduceCtorEq]
      refine ⟨⟨_, _, m2, fun k => ?_⟩, by omega, fun g hg hne => by rw [h4 g hne]; exact hk g hg hne⟩
      rw [getM_set, hD2 k]
      unfold moveD
      by_cases hkn : k = n
      · rw [if_pos hkn, if_pos ⟨hkn, hn⟩]; rfl
      · rw [if_neg hkn, if_neg (c := k = n ∧ n ≠ emptyNm) (fun h => hkn h.1)]
  · obtain ⟨hel, hes⟩ := mem_unseen.1 he
    obtain ⟨z, hz1, hz2⟩ := hv e ((hl e).1 hel).1
    have hlen := (unseen_push l' m'.nb seen he).length_eq
    have m2 : MapH Value.string (H1.setIfInBounds H.size (.mapIter (some mb) c (seen.push e.born) c)) mb l' c := m'.keep (by rw [Array.getElem?_setIfInBounds, if_neg (by omega)])
    have i2 : IterH (H1.setIfInBounds H.size (.mapIter (some mb) c (seen.push e.born) c)) H.size mb (seen.push e.born) c := by
      unfold IterH; rw [Array.getElem?_setIfInBounds, if_pos rfl, if_pos hsz]
    have k2 : ∀ g, g < H.size → (H1.setIfInBounds H.size (.mapIter (some mb) c (seen.push e.born) c))[g]? = H1[g]? := fun g hg => by rw [Array.getElem?_setIfInBounds, if_neg (by omega)]
    have s2 : (H1.setIfInBounds H.size (.mapIter (some mb) c (seen.push e.born) c)).size = H1.size := by simp
    generalize H1.setIfInBounds H.size (.mapIter (some mb) c (seen.push e.born) c) = H2 at *
    simp only [go_sem, ↓reduceIte, Nat.reduceEqDiff, Nat.reduceLeDiff, Nat.reduceAdd, Nat.reduceMul, Nat.reduceSub, Nat.reduceBEq, Nat.reduceGT, Nat.reduceLT, Int.reduceLE, Int.reduceLT, Int.reduceNeg, reduceCtorEq, e7]
    refine OpSI.value (entry_run m2 i2 hel) ?_
    rintro _ _ ⟨rfl, rfl⟩
    have g1 : hget H2 c1 0 = some (ptrOf x) := by rw [hget_cells (by rw [k2 c1 l1, hk c1 l1 n1]; exact h1)]; rfl
    have st : ∀ g, g < H.size → Stands H g → Stands H2 g := fun g hg ⟨cc, tt, hh⟩ => ⟨cc, tt, by rw [k2 g hg, hk g hg (map_ne hh m.hb)]; exact hh⟩
    have sx : Stands H2 x := st x (let ⟨_, _, hh⟩ := hx; (Array.getElem?_eq_some_iff.1 hh).1) hx
    have sz : Stands H2 z := st z (let ⟨_, _, hh⟩ := hD _ _ hz1; (Array.getElem?_eq_some_iff.1 hh).1) (hD _ _ hz1)
    obtain ⟨j, hj1, hj2⟩ := info_ty ty117
    simp only [go_sem, ↓reduceIte, Nat.reduceEqDiff, Nat.reduceLeDiff, Nat.reduceAdd, Nat.reduceMul, Nat.reduceSub, Nat.reduceBEq, Nat.reduceGT, Nat.reduceLT, Int.reduceLE, Int.reduceLT, Int.reduceNeg, reduceCtorEq, e1, ptrOf, g1, hz2]
    refine RunI.by (ptr_eq_run (und_ptr ty115) hj1 (by rw [hj2]; decide) sz sx) ?_
    rintro _ _ ⟨rfl, rfl⟩
    have hnb := m'.nb
    by_cases hzx : z = x
    · rw [show decide (z = x) = true by simp [hzx]]
      simp only [go_sem, ↓reduceIte, Nat.reduceEqDiff, Nat.reduceLeDiff, Nat.reduceAdd, Nat.reduceMul, Nat.reduceSub, Nat.reduceBEq, Nat.reduceGT, Nat.reduceLT, Int.reduceLE, Int.reduceLT, Int.reduceNeg, reduceCtorEq, e0]
      refine RunI.by (delete_run (keyed_str (und_str ty9)) (und_map ty85) m2 e.key trivial fun _ _ => trivial) ?_
      rintro _ _ ⟨rfl, rfl⟩
      have hmem : ∀ y, y ∈ delM l' e.key ↔ y ∈ l' ∧ y ≠ e := fun y => by
        unfold delM
        rw [List.mem_filter, decide_eq_true_eq]
        exact ⟨fun ⟨h1, h2⟩ => ⟨h1, fun h => h2 (by rw [h])⟩, fun ⟨h1, h2⟩ => ⟨h1, fun h => h2 (nodup_map_inj m'.nk h1 hel h)⟩⟩
      have m3 := m2.del e.key
      have i3 : IterH (H2.setIfInBounds mb (.map (entsA Value.string (delM l' e.key)) c)) H.size mb (seen.push e.born) c := by
        unfold IterH; rw [Array.getElem?_setIfInBounds, if_neg (by omega)]; exact i2
      simp only [go_sem, ↓reduceIte, Nat.reduceEqDiff, Nat.reduceLeDiff, Nat.reduceAdd, Nat.reduceMul, Nat.reduceSub, Nat.reduceBEq, Nat.reduceGT, Nat.reduceLT, Int.reduceLE, Int.reduceLT, Int.reduceNeg, reduceCtorEq]
      refine ⟨Hold.mk ⟨seen.push e.born, delM l' e.key, by simp only [go_sem, ↓reduceIte, Nat.reduceEqDiff, Nat.reduceLeDiff, Nat.reduceAdd, Nat.reduceMul, Nat.reduceSub, Nat.reduceBEq, Nat.reduceGT, Nat.reduceLT, Int.reduceLE, Int.reduceLT, Int.reduceNeg, reduceCtorEq, e0], by simp only [go_sem, ↓reduceIte, Nat.reduceEqDiff, Nat.reduceLeDiff, Nat.reduceAdd, Nat.reduceMul, Nat.reduceSub, Nat.reduceBEq, Nat.reduceGT, Nat.reduceLT, Int.reduceLE, Int.reduceLT, Int.reduceNeg, reduceCtorEq, e1], by simp only [go_sem, ↓reduceIte, Nat.reduceEqDiff, Nat.reduceLeDiff, Nat.reduceAdd, Nat.reduceMul, Nat.reduceSub, Nat.reduceBEq, Nat.reduceGT, Nat.reduceLT, Int.reduceLE, Int.reduceLT, Int.reduceNeg, reduceCtorEq, e2], by simp only [go_sem, ↓reduceIte, Nat.reduceEqDiff, Nat.reduceLeDiff, Nat.reduceAdd, Nat.reduceMul, Nat.reduceSub, Nat.reduceBEq, Nat.reduceGT, Nat.reduceLT, Int.reduceLE, Int.reduceLT, Int.reduceNeg, reduceCtorEq, e7], m3, i3, fun y => ?_, by simp; omega, fun g hg hne => by rw [Array.getElem?_setIfInBounds, if_neg (Ne.symm hne), k2 g hg]; exact hk g hg hne⟩, ?_⟩
      · rw [hmem, hl, contains_push, Bool.or_eq_true, beq_iff_eq]
        constructor
        · rintro ⟨⟨h1, h2⟩, h3⟩
          refine ⟨h1, ?_⟩
          rintro ⟨h4 | h4, h5⟩
          · exact h2 ⟨h4, h5⟩
          · exact h3 (nodup_map_inj m.nb h1 ((hl e).1 hel).1 h4)
        · rintro ⟨h1, h2⟩
          refine ⟨⟨h1, fun h => h2 ⟨.inl h.1, h.2⟩⟩, fun h => h2 ⟨.inr (by rw [h]), by rw [h, hz2, hzx]⟩⟩
      · rw [leftN_eq m3 i3, hmu, hlen]
        have : (unseen (delM l' e.key) (seen.push e.born)).length ≤ (unseen l' (seen.push e.born)).length := (List.Sublist.filter _ List.filter_sublist).length_le
        simp only [List.length_cons]
        omega
    · rw [show decide (z = x) = false by simp [hzx]]
      simp only [go_sem, ↓reduceIte, Nat.reduceEqDiff, Nat.reduceLeDiff, Nat.reduceAdd, Nat.reduceMul, Nat.reduceSub, Nat.reduceBEq, Nat.reduceGT, Nat.reduceLT, Int.reduceLE, Int.reduceLT, Int.reduceNeg, reduceCtorEq]
      refine ⟨Hold.mk ⟨seen.push e.born, l', by simp only [go_sem, ↓reduceIte, Nat.reduceEqDiff, Nat.reduceLeDiff, Nat.reduceAdd, Nat.reduceMul, Nat.reduceSub, Nat.reduceBEq, Nat.reduceGT, Nat.reduceLT, Int.reduceLE, Int.reduceLT, Int.reduceNeg, reduceCtorEq, e0], by simp only [go_sem, ↓reduceIte, Nat.reduceEqDiff, Nat.reduceLeDiff, Nat.reduceAdd, Nat.reduceMul, Nat.reduceSub, Nat.reduceBEq, Nat.reduceGT, Nat.reduceLT, Int.reduceLE, Int.reduceLT, Int.reduceNeg, reduceCtorEq, e1], by simp only [go_sem, ↓reduceIte, Nat.reduceEqDiff, Nat.reduceLeDiff, Nat.reduceAdd, Nat.reduceMul, Nat.reduceSub, Nat.reduceBEq, Nat.reduceGT, Nat.reduceLT, Int.reduceLE, Int.reduceLT, Int.reduceNeg, reduceCtorEq, e2], by simp only [go_sem, ↓reduceIte, Nat.reduceEqDiff, Nat.reduceLeDiff, Nat.reduceAdd, Nat.reduceMul, Nat.reduceSub, Nat.reduceBEq, Nat.reduceGT, Nat.reduceLT, Int.reduceLE, Int.reduceLT, Int.reduceNeg, reduceCtorEq, e7], m2, i2, fun y => ?_, by omega, fun g hg hne => by rw [k2 g hg]; exact hk g hg hne⟩, ?_⟩
      · rw [hl, contains_push, Bool.or_eq_true, beq_iff_eq]
        constructor
        · rintro ⟨h1, h2⟩
          refine ⟨h1, ?_⟩
          rintro ⟨h4 | h4, h5⟩
          · exact h2 ⟨h4, h5⟩
          · have := nodup_map_inj m.nb h1 ((hl e).1 hel).1 h4
            subst this
            exact hzx (ptrOf_inj (hz2.symm.trans h5))
        · rintro ⟨h1, h2⟩
          exact ⟨h1, fun h => h2 ⟨.inl h.1, h.2⟩⟩
      · rw [leftN_eq m2 i2, hmu, hlen]
        simp
section
variable {H H' H2 : Heap} {F F' : Nat → Prop} {b mb lb hb : Nat} {pv pv' : Value} {dv : Nat → Value} {s : St}
theorem FsP.more (h : FsP H F b mb lb hb pv dv s) (hF : ∀ g, F g → F' g) (hl : ∀ g, F' g → g < H.size) : FsP H F' b mb lb hb pv dv s := by
  obtain ⟨vs, p1, p2⟩ := h.hp
  exact ⟨h.hM, h.hN, h.hL, h.hH, ⟨vs, p1, p2.mono fun v p hv => hv.keep hF fun _ _ _ _ _ _ => rfl⟩, fun f hf => (h.hf f hf).keep hF rfl fun _ _ => rfl, h.dis, h.ne, hF _ h.fb, hF _ h.fm, hF _ h.fl, hF _ h.fh, fun g hg => hF _ (h.fp g hg), hl⟩
theorem DirH.map {D : Dir} (h : DirH H b D) : ∃ es c, H[b]? = some (.map es c) := let ⟨_, _, m, _⟩ := h; ⟨_, _, m.hb⟩
theorem HeldH.map {hs : List Nat} (h : HeldH H b hs) : ∃ es c, H[b]? = some (.map es c) := let ⟨_, _, m, _⟩ := h; ⟨_, _, m.hb⟩
theorem Own.ne_map {B : Nat} {e : TypeId} {sz : Nat} {v : Value} {vs : List Value} (h : V.Own H B e sz v vs) {g m : Nat} (hg : blk v = some g) (hm : ∃ es c, H[m]? = some (.map es c)) : g ≠ m := by
  obtain ⟨_, _, c, hc⟩ := h.blk hg
  obtain ⟨es, k, hm⟩ := hm
  exact map_ne hc hm
/-- The directory has been turned, in its block alone. -/
theorem FsP.setNow (h : FsP H F b mb lb hb pv dv s) {D : Dir} (hd : DirH H' mb D) (hs : H.size ≤ H'.size) (hk : ∀ g, g < H.size → g ≠ mb → H'[g]? = H[g]?) : FsP H' F b mb lb hb pv dv { s with now := D } ∧ Ch F F H H' := by
  obtain ⟨vs, p1, p2⟩ := h.hp
  have mm := h.hN.map
  have kk : ∀ g, F g → g ≠ mb → H'[g]? = H[g]? := fun g hg hne => hk g (h.lt g hg) hne
  have kc : ∀ (g : Nat) (c : Array Value) (t : TypeId), F g → H[g]? = some (.cells c t) → H'[g]? = H[g]? := fun g c t hg hc => kk g hg (let ⟨_, _, hm⟩ := mm; map_ne hc hm)
  refine ⟨⟨by rw [kc b _ _ h.fb h.hM]; exact h.hM, hd, h.hL.keep (kk _ h.fl (Ne.symm h.ne.1)), h.hH.keep (kk _ h.fh (Ne.symm h.ne.2.1)), ⟨vs, p1.keep fun g hg => kk g (h.fp g hg) (Own.ne_map p1 hg mm), p2.mono fun v p hv => hv.keep (fun _ h => h) fun g c t hg hc _ => kc g c t hg hc⟩,
    fun f hf => ?_, h.dis, h.ne, h.fb, h.fm, h.fl, h.fh, h.fp, fun g hg => Nat.lt_of_lt_of_le (h.lt g hg) hs⟩, ⟨hs, fun _ h => .inl h, fun g hg hne => hk g hg fun e => hne (e ▸ h.fm)⟩⟩
  have hf' := h.hf f hf
  exact hf'.keep (fun _ h => h) (kc f _ _ hf'.1 hf'.2.1) fun g hg => kk g (hf'.2.2.2 g hg) (Own.ne_map hf'.2.2.1 hg mm)
/-- One operation more pends. -/
theorem FsP.setPend (h : FsP H F b mb lb hb pv dv s) {p : Nat × Nm} (hg : But (blk pv) H H2) {vs : List Value} {v : Value} (hvs : All2 (PendH H F) vs s.pend) (hv : PendH H F v p) (o : V.Own H 0 165 1 pv vs) (o2 : V.Own H2 0 165 1 pv' (vs ++ [v]))
    (ha : blk pv' = blk pv ∨ ∃ k, blk pv' = some k ∧ H.size ≤ k) : hcan H2 b 3 1 ∧ ∃ F', FsP (hput H2 b 3 [pv']) F' b mb lb hb pv' dv { s with pend := s.pend ++ [p] } ∧ Ch F F' H (hput H2 b 3 [pv']) := by
  have hne : ∀ (g : Nat) (c : Array Value) (t : TypeId), H[g]? = some (Obj.cells c t) → t ≠ 165 → some g ≠ blk pv := by
    intro g c t hc ht hbe
    obtain ⟨_, _, cg, hcg⟩ := o.blk hbe.symm
    exact tag_ne hc hcg ht rfl
  have kc : ∀ (g : Nat) (c : Array Value) (t : TypeId), H[g]? = some (Obj.cells c t) → t ≠ 165 → H2[g]? = H[g]? := fun g c t hc ht => hg.get g (Array.getElem?_eq_some_iff.1 hc).1 (hne g c t hc ht)
  have km : ∀ (g : Nat), (∃ es c, H[g]? = some (Obj.map es c)) → H2[g]? = H[g]? := fun g hm => by
    obtain ⟨es, c, hm⟩ := hm
    refine hg.get g (Array.getElem?_eq_some_iff.1 hm).1 fun hbe => ?_
    exact Own.ne_map o hbe.symm ⟨es, c, hm⟩ rfl
  have hM2 : H2[b]? = some (.cells (stC s mb lb hb pv) 89) := by rw [kc b _ _ h.hM (by decide : 89 ≠ 165)]; exact h.hM
  have kb : ∀ g, g ≠ b → (hput H2 b 3 [pv'])[g]? = H2[g]? := fun g hne => hput_other _ _ _ _ hne
  have km2 : ∀ (g : Nat), (∃ es c, H[g]? = some (Obj.map es c)) → (hput H2 b 3 [pv'])[g]? = H[g]? := fun g hm => by
    rw [kb g (fun e => by obtain ⟨_, _, hm⟩ := hm; exact map_ne h.hM hm e.symm), km g hm]
  have kc2 : ∀ (g : Nat) (c : Array Value) (t : TypeId), H[g]? = some (Obj.cells c t) → t ≠ 165 → t ≠ 89 → (hput H2 b 3 [pv'])[g]? = H[g]? := fun g c t hc ht1 ht2 => by
    rw [kb g (tag_ne hc h.hM ht2), kc g c t hc ht1]
  refine ⟨hcan_of hM2 (by show 3 + 1 ≤ 8; omega), fun g => F g ∨ blk pv' = some g, ⟨?_, h.hN.keep (km2 _ h.hN.map), h.hL.keep (km2 _ h.hL.map), h.hH.keep (km2 _ h.hH.map), ⟨vs ++ [v], o2.keep fun g hg' => kb g ?_, ?_⟩, fun f hf => ?_, h.dis, h.ne, .inl h.fb, .inl h.fm, .inl h.fl, .inl h.fh, fun g hg => .inr hg, fun g hg' => ?_⟩, ⟨?_, fun g hg' => ?_, fun g hg' hnf => ?_⟩⟩
  · rw [hput_same hM2]; rfl
  · obtain ⟨_, _, cg, hcg⟩ := o2.blk hg'
    exact tag_ne hcg hM2 (by decide : 165 ≠ 89)
  · have hkk : ∀ v p, PendH H F v p → PendH (hput H2 b 3 [pv']) (fun g => F g ∨ blk pv' = some g) v p := fun v p hv => hv.keep (fun _ h => .inl h) fun g c t hg hc ht => by
      rcases ht with rfl | rfl
      · exact kc2 g _ _ hc (by decide : 115 ≠ 165) (by decide : 115 ≠ 89)
      · exact kc2 g _ _ hc (by decide : 9 ≠ 165) (by decide : 9 ≠ 89)
    exact All2.snoc (R := PendH (hput H2 b 3 [pv']) (fun g => F g ∨ blk pv' = some g)) (hkk _ _ hv) (hvs.mono hkk)
  · have hf' := h.hf f hf
    refine hf'.keep (fun _ h => .inl h) (kc2 f _ _ hf'.2.1 (by decide : 117 ≠ 165) (by decide : 117 ≠ 89)) fun g hg' => ?_
    obtain ⟨_, _, c, hc⟩ := hf'.2.2.1.blk hg'
    exact kc2 g _ _ hc (by decide : 5 ≠ 165) (by decide : 5 ≠ 89)
  · rw [hput_size]
    rcases hg' with hg' | hg'
    · exact Nat.lt_of_lt_of_le (h.lt g hg') hg.size
    · exact (o2.blk hg').2.1
  · rw [hput_size]; exact hg.size
  · rcases hg' with hg' | hg'
    · exact .inl hg'
    · rcases ha with ha | ⟨k, hk1, hk2⟩
      · exact .inl (h.fp g (ha ▸ hg'))
      · rw [hk1] at hg'; cases hg'; exact .inr hk2
  · rw [kb g fun e => hnf (e ▸ h.fb)]
    exact hg.get g hg' fun e => hnf (h.fp g e.symm)
theorem FsP.stands (h : FsP H F b mb lb hb pv dv s) {f : Nat} (hf : f ∈ s.held) : Stands H f := ⟨_, _, (h.hf f hf).2.1⟩
set_option maxHeartbeats 1600000 in
theorem F188 (h : FsP H F b mb lb hb pv dv s) {x : Nat} (hx : x ∈ s.held) (n : Nm) (hn : ∀ m f, s.now m = some f → f ∈ s.held) (hfu : 0 ≤ s.fuse ∧ s.fuse < 9223372036854775808) (hops : 0 ≤ s.ops ∧ s.ops < 4611686018427387904) (hpl : s.pend.length ≤ 1099511627776) :
    Fun Tryz.prog 188 #[ptrOf b, ptrOf x, .string n] H (fun r H' => r = .int .i64 (pendS s x n).2 ∧ ∃ F' pv', FsP H' F' b mb lb hb pv' dv (pendS s x n).1 ∧ Ch F F' H H') := by
  refine fun_of mixed (args := [_, _, _]) Tryz.func188 Tryz.ntmps188 b188 r188 rfl ?_
  simp only [go_sem, ↓reduceIte, Nat.reduceEqDiff, Nat.reduceLeDiff, Nat.reduceAdd, Nat.reduceMul, Nat.reduceSub, Nat.reduceBEq, Nat.reduceGT, Nat.reduceLT, Int.reduceLE, Int.reduceLT, Int.reduceNeg, reduceCtorEq, ptrOf]
  have q1 : ((H.push (.cells #[.pointer (some ⟨x, 0, none⟩)] 115)).push (.cells #[.string n] 9))[H.size]? = some (.cells #[ptrOf x] 115) := by
    rw [push_old (by simp)]; exact push_new
  have q2 : ((H.push (.cells #[.pointer (some ⟨x, 0, none⟩)] 115)).push (.cells #[.string n] 9))[H.size + 1]? = some (.cells #[.string n] 9) := by
    have := push_new (H := H.push (.cells #[.pointer (some ⟨x, 0, none⟩)] 115)) (x := .cells #[.string n] 9)
    rwa [Array.size_push] at this
  have qs : ((H.push (.cells #[.pointer (some ⟨x, 0, none⟩)] 115)).push (.cells #[.string n] 9)).size = H.size + 2 := by simp
  have x0 : Ext H ((H.push (.cells #[.pointer (some ⟨x, 0, none⟩)] 115)).push (.cells #[.string n] 9)) := (Ext.push _).trans ((Ext.push _).mono (by simp))
  rw [show (H.push (.cells #[.pointer (some ⟨x, 0, none⟩)] 115)).size = H.size + 1 by simp]
  have h0 := h.ext x0
  obtain ⟨g0, g1, g2, g3, g4, g5, g6, g7⟩ := h0.get
  simp only [go_sem, ↓reduceIte, Nat.reduceEqDiff, Nat.reduceLeDiff, Nat.reduceAdd, Nat.reduceMul, Nat.reduceSub, Nat.reduceBEq, Nat.reduceGT, Nat.reduceLT, Int.reduceLE, Int.reduceLT, Int.reduceNeg, reduceCtorEq, g1]
  generalize (H.push (.cells #[.pointer (some ⟨x, 0, none⟩)] 115)).push (.cells #[.string n] 9) = H0 at *
  have h1 : FsP H0 (fun g => F g ∨ H.size ≤ g ∧ g < H0.size) b mb lb hb pv dv s := h0.more (fun _ h => .inl h) fun g hg => by
    rcases hg with hg | hg
    · exact Nat.lt_of_lt_of_le (h.lt g hg) x0.size
    · exact hg.2
  have ch1 : Ch F (fun g => F g ∨ H.size ≤ g ∧ g < H0.size) H H0 := ⟨x0.size, fun g hg => hg.imp_right fun h => h.1, fun g hg _ => x0.get g hg⟩
  refine FunI.by (F269 (c1 := H.size) (c2 := H.size + 1) h1.hN q1 q2 (h0.stands hx) (fun m f hm => h0.stands (hn m f hm))) ?_
  rintro r1 H1 ⟨d1, s1, k1⟩
  obtain ⟨h2, ch2⟩ := h1.setNow d1 s1 k1
  have q1' : H1[H.size]? = some (.cells #[ptrOf x] 115) := by rw [k1 _ (by omega) (let ⟨_, _, hm⟩ := h1.hN.map; map_ne q1 hm)]; exact q1
  have q2' : H1[H.size + 1]? = some (.cells #[.string n] 9) := by rw [k1 _ (by omega) (let ⟨_, _, hm⟩ := h1.hN.map; map_ne q2 hm)]; exact q2
  obtain ⟨_, _, _, g3, _, _, _, _⟩ := h2.get
  obtain ⟨vs, o, pp⟩ := h2.hp
  have hvl : vs.length = s.pend.length := pp.length
  simp only [go_sem, ↓reduceIte, Nat.reduceEqDiff, Nat.reduceLeDiff, Nat.reduceAdd, Nat.reduceMul, Nat.reduceSub, Nat.reduceBEq, Nat.reduceGT, Nat.reduceLT, Int.reduceLE, Int.reduceLT, Int.reduceNeg, reduceCtorEq, g3]
  refine RunI.by (append_lit ty87 ty165 rfl (by decide) o (ys := [.func (.func 269) #[] #[ptrOf H.size, ptrOf (H.size + 1)]]) (m := 1) rfl rfl (n := vs.length + 1) (by simp) (by omega) (by omega) (Nat.zero_le _)) ?_
  rintro pv' H2 ⟨o2, gr, _⟩
  obtain ⟨p1, F', h3, ch3⟩ := h2.setPend (p := (x, n)) gr.but pp ⟨H.size, H.size + 1, rfl, .inr ⟨Nat.le_refl _, by omega⟩, .inr ⟨by omega, by omega⟩, q1', q2'⟩ o o2 gr.at'
  obtain ⟨a', len', cap', rfl⟩ := Sl.form o2.sl
  simp only [go_sem, ↓reduceIte, Nat.reduceEqDiff, Nat.reduceLeDiff, Nat.reduceAdd, Nat.reduceMul, Nat.reduceSub, Nat.reduceBEq, Nat.reduceGT, Nat.reduceLT, Int.reduceLE, Int.reduceLT, Int.reduceNeg, reduceCtorEq, p1]
  refine ⟨rfl, ?_⟩
  refine FunI.by (F179 h3 hfu hops) ?_
  rintro _ H4 ⟨rfl, h4, ch4⟩
  simp only [go_sem, ↓reduceIte, Nat.reduceEqDiff, Nat.reduceLeDiff, Nat.reduceAdd, Nat.reduceMul, Nat.reduceSub, Nat.reduceBEq, Nat.reduceGT, Nat.reduceLT, Int.reduceLE, Int.reduceLT, Int.reduceNeg, reduceCtorEq]
  exact ⟨rfl, F', _, h4, ((ch1.trans ch2).trans ch3).trans ch4⟩
end
end Go.Proofs.YtgigigchjnnonaaGreatDoor
