/- The directory made to last. -/
import Derived.Test.YtgigigchjnnonaaGreatDoorVFsD
import Derived.Test.YtgigigchjnnonaaGreatDoorVLayN
set_option linter.unusedSimpArgs false
set_option linter.unusedVariables false
set_option maxRecDepth 20000
namespace Go.Proofs.YtgigigchjnnonaaGreatDoor
open Go Go.V
section
variable {H H' H2 : Heap} {F F' : Nat → Prop} {b mb lb hb lb' hb' : Nat} {pv pv' : Value} {dv : Nat → Value} {s : St}
theorem F171 {es : Array MapEntry} {c m : Nat} (h : H[m]? = some (.map es c)) : Fun Tryz.prog 171 #[.map (some m)] H (fun r H' => r = .map (some H.size) ∧ H' = H.push (.map es c)) := by
  intro w hw
  subst hw
  refine (show Calls Tryz.prog 171 #[.map (some m)] w _ from AnyW.maps_Clone Tryz.cloneP m es c w h).mono ?_
  rintro e w' ⟨rfl, rfl⟩
  exact ⟨_, rfl, ⟨rfl, rfl, rfl, trivial⟩, rfl, rfl⟩
/-- Settled: a new directory to last, new held ones, nothing that pends. -/
theorem FsP.settled (h : FsP H F b mb lb hb pv dv s) {hs' : List Nat} (hs : H.size ≤ H'.size) (hk : ∀ g, g < H.size → g ≠ b → H'[g]? = H[g]?) (hM : H'[b]? = some (.cells (stC { s with last := s.now, pend := [], held := hs' } mb lb' hb' (.slice none 0 0)) 89))
    (hL : DirH H' lb' s.now) (hH : HeldH H' hb' hs') (l1 : H.size ≤ lb') (l2 : H.size ≤ hb') (hne : lb' ≠ hb') (sub : ∀ f ∈ hs', f ∈ s.held) :
    ∃ F', FsP H' F' b mb lb' hb' (.slice none 0 0) dv { s with last := s.now, pend := [], held := hs' } ∧ Ch F F' H H' := by
  have kc : ∀ (g : Nat) (c : Array Value) (t : TypeId), F g → H[g]? = some (.cells c t) → t ≠ 89 → H'[g]? = H[g]? := fun g c t hg hc ht => hk g (h.lt g hg) (tag_ne hc h.hM ht)
  have km : H'[mb]? = H[mb]? := hk mb (h.lt _ h.fm) (let ⟨_, _, hm⟩ := h.hN.map; (map_ne h.hM hm).symm)
  have e1 := h.lt _ h.fm
  have e2 : lb' < H'.size := hL.lt
  have e3 : hb' < H'.size := let ⟨_, _, hm⟩ := hH.map; (Array.getElem?_eq_some_iff.1 hm).1
  refine ⟨fun g => F g ∨ g = lb' ∨ g = hb', ⟨hM, h.hN.keep km, hL, hH, ⟨[], Own.nil, trivial⟩, fun f hf => ?_, fun f hf g hg => h.dis f (sub f hf) g (sub g hg), ⟨by omega, by omega, hne⟩, .inl h.fb, .inl h.fm, .inr (.inl rfl), .inr (.inr rfl), fun g hg => by simp [blk] at hg, fun g hg => ?_⟩, ⟨hs, fun g hg => ?_, fun g hg hnf => hk g hg fun e => hnf (e ▸ h.fb)⟩⟩
  · have hf' := h.hf f (sub f hf)
    refine hf'.keep (fun _ h => .inl h) (kc f _ _ hf'.1 hf'.2.1 (by decide : 117 ≠ 89)) fun g hg => ?_
    obtain ⟨_, _, c, hc⟩ := hf'.2.2.1.blk hg
    exact kc g _ _ (hf'.2.2.2 g hg) hc (by decide : 5 ≠ 89)
  · rcases hg with hg | rfl | rfl
    · exact Nat.lt_of_lt_of_le (h.lt g hg) hs
    · exact e2
    · exact e3
  · rcases hg with hg | rfl | rfl
    · exact .inl hg
    · exact .inr l1
    · exact .inr l2
theorem put_cell {H : Heap} {b i : Nat} {c : Array Value} {e : TypeId} (h : H[b]? = some (.cells c e)) (hi : i < c.size) (v : Value) : hcan H b i 1 ∧ (hput H b i [v])[b]? = some (.cells (c.setIfInBounds i v) e) := by
  refine ⟨hcan_of h (by omega), ?_⟩
  rw [hput_same h]
  congr 2
  apply Array.ext_getElem?
  intro j
  rw [Array.getElem?_setIfInBounds]
  by_cases hij : i = j
  · subst hij
    have := cput_get_in (c := c) (o := i) (vs := [v]) (j := 0) (by simp; omega) (by simp)
    rw [Nat.add_zero] at this
    rw [this]; simp [hi]
  · rw [cput_get_out (by simp; omega) (by simp; omega), if_neg hij]
open Classical in
theorem settle_held {l : List (Ent Nm)} {l3 : List (Ent Nat)} {c : Nat} {H : Heap} {g : Nat} (s : St) (hg : ∀ n, getM l n = (s.now n).map ptrOf) (hnk : (l.map (·.key)).Nodup) (hv : ∀ e ∈ l, ∃ x, s.now e.key = some x ∧ e.val = ptrOf x) (hn : ∀ m f, s.now m = some f → f ∈ s.held) (hnd : s.held.Nodup) (h3 : MapH ptrOf H g l3 c) (hm : ∀ f, f ∈ l3.map (·.key) ↔ ∃ e ∈ l, e.val = ptrOf f) :
    (l3.map (·.key)).Perm (s.held.filter fun f => decide (∃ n, s.now n = some f)) := by
  refine (List.perm_ext_iff_of_nodup h3.nk (hnd.filter _)).2 fun f => ?_
  rw [hm, List.mem_filter, decide_eq_true_eq]
  constructor
  · rintro ⟨e, he, hf⟩
    obtain ⟨x, h1, h2⟩ := hv e he
    have := ptrOf_inj (h2.symm.trans hf)
    subst this
    exact ⟨hn _ _ h1, _, h1⟩
  · rintro ⟨_, n, hnf⟩
    have : getM l n = some (ptrOf f) := by rw [hg, hnf]; rfl
    obtain ⟨e, he, _, h4⟩ := (getM_mem hnk).1 this
    exact ⟨e, he, h4⟩
set_option maxHeartbeats 3200000 in
theorem F55 (h : FsP H F b mb lb hb pv dv s) (hn : ∀ m f, s.now m = some f → f ∈ s.held) (hnd : s.held.Nodup) :
    Fun Tryz.prog 55 #[ptrOf b] H (fun r H' => ∃ F' lb' hb', FsP H' F' b mb lb' hb' (.slice none 0 0) dv (settleS s) ∧ Ch F F' H H') := by
  refine fun_of mixed (args := [_]) Tryz.func55 Tryz.ntmps55 b55 r55 rfl ?_
  obtain ⟨g0, g1, g2, g3, g4, g5, g6, g7⟩ := h.get
  obtain ⟨l, c, m, hg⟩ := h.hN
  have hv := DirH.vals m hg
  simp only [go_sem, ↓reduceIte, Nat.reduceEqDiff, Nat.reduceLeDiff, Nat.reduceAdd, Nat.reduceMul, Nat.reduceSub, Nat.reduceBEq, Nat.reduceGT, Nat.reduceLT, Int.reduceLE, Int.reduceLT, Int.reduceNeg, reduceCtorEq, ptrOf, g1]
  refine FunI.by (F171 m.hb) ?_
  rintro _ _ ⟨rfl, rfl⟩
  have hbl : b < H.size := h.lt _ h.fb
  have hml := h.lt _ h.fm
  have e1 : (H.push (.map (entsA Value.string l) c))[b]? = some (.cells (stC s mb lb hb pv) 89) := by rw [push_old hbl]; exact h.hM
  have n1 : (H.push (.map (entsA Value.string l) c))[H.size]? = some (.map (entsA Value.string l) c) := push_new
  have k1 : ∀ g, g < H.size → (H.push (.map (entsA Value.string l) c))[g]? = H[g]? := fun g hg => push_old hg
  have s1 : (H.push (.map (entsA Value.string l) c)).size = H.size + 1 := by simp
  obtain ⟨c1, d1⟩ := put_cell e1 (i := 2) (by show 2 < 8; omega) (.map (some H.size))
  obtain ⟨c2, d2⟩ := put_cell d1 (i := 3) (by show 3 < 8; omega) (.slice none 0 0)
  simp only [go_sem, ↓reduceIte, Nat.reduceEqDiff, Nat.reduceLeDiff, Nat.reduceAdd, Nat.reduceMul, Nat.reduceSub, Nat.reduceBEq, Nat.reduceGT, Nat.reduceLT, Int.reduceLE, Int.reduceLT, Int.reduceNeg, reduceCtorEq, c1, c2]
  refine ⟨rfl, rfl, ?_⟩
  have n2 : (hput (hput (H.push (.map (entsA Value.string l) c)) b 2 [.map (some H.size)]) b 3 [.slice none 0 0])[H.size]? = some (.map (entsA Value.string l) c) := by rw [hput_other _ _ _ _ (by omega), hput_other _ _ _ _ (by omega)]; exact n1
  have k2 : ∀ g, g < H.size → g ≠ b → (hput (hput (H.push (.map (entsA Value.string l) c)) b 2 [.map (some H.size)]) b 3 [.slice none 0 0])[g]? = H[g]? := fun g hg hne => by rw [hput_other _ _ _ _ hne, hput_other _ _ _ _ hne]; exact k1 g hg
  have s2 : (hput (hput (H.push (.map (entsA Value.string l) c)) b 2 [.map (some H.size)]) b 3 [.slice none 0 0]).size = H.size + 1 := by rw [hput_size, hput_size]; exact s1
  generalize hput (hput (H.push (.map (entsA Value.string l) c)) b 2 [.map (some H.size)]) b 3 [.slice none 0 0] = H2 at *
  clear n1 k1 s1 d1 c1 c2 e1
  refine RunI.by makeMap_run ?_
  rintro _ _ ⟨rfl, rfl⟩
  have e3 : (H2.push (.map #[] 0))[b]? = some (.cells (((stC s mb lb hb pv).setIfInBounds 2 (.map (some H.size))).setIfInBounds 3 (.slice none 0 0)) 89) := by rw [push_old (by omega)]; exact d2
  have n3 : (H2.push (.map #[] 0))[H.size]? = some (.map (entsA Value.string l) c) := by rw [push_old (by omega)]; exact n2
  have m3 : (H2.push (.map #[] 0))[H.size + 1]? = some (.map #[] 0) := by have := push_new (H := H2) (x := .map #[] 0); rwa [s2] at this
  have k3 : ∀ g, g < H.size → g ≠ b → (H2.push (.map #[] 0))[g]? = H[g]? := fun g hg hne => by rw [push_old (by omega)]; exact k2 g hg hne
  have s3 : (H2.push (.map #[] 0)).size = H.size + 2 := by simp [s2]
  rw [s2]
  obtain ⟨c4, d4⟩ := put_cell e3 (i := 4) (by show 4 < 8; omega) (.map (some (H.size + 1)))
  simp only [go_sem, ↓reduceIte, Nat.reduceEqDiff, Nat.reduceLeDiff, Nat.reduceAdd, Nat.reduceMul, Nat.reduceSub, Nat.reduceBEq, Nat.reduceGT, Nat.reduceLT, Int.reduceLE, Int.reduceLT, Int.reduceNeg, reduceCtorEq, c4]
  refine ⟨rfl, ?_⟩
  have n4 : (hput (H2.push (.map #[] 0)) b 4 [.map (some (H.size + 1))])[H.size]? = some (.map (entsA Value.string l) c) := by rw [hput_other _ _ _ _ (by omega)]; exact n3
  have m4 : (hput (H2.push (.map #[] 0)) b 4 [.map (some (H.size + 1))])[H.size + 1]? = some (.map #[] 0) := by rw [hput_other _ _ _ _ (by omega)]; exact m3
  have k4 : ∀ g, g < H.size → g ≠ b → (hput (H2.push (.map #[] 0)) b 4 [.map (some (H.size + 1))])[g]? = H[g]? := fun g hg hne => by rw [hput_other _ _ _ _ hne]; exact k3 g hg hne
  have s4 : (hput (H2.push (.map #[] 0)) b 4 [.map (some (H.size + 1))]).size = H.size + 2 := by rw [hput_size]; exact s3
  generalize hput (H2.push (.map #[] 0)) b 4 [.map (some (H.size + 1))] = H4 at *
  clear n2 k2 s2 d2 e3 n3 m3 k3 s3 c4
  have hmb : mb ≠ b := let ⟨_, _, hm⟩ := h.hN.map; (map_ne h.hM hm).symm
  have mm4 : MapH Value.string H4 mb l c := m.keep (k4 mb hml hmb)
  have d4' : H4[b]? = some (.cells #[.int .i64 s.room, .map (some mb), .map (some H.size), .slice none 0 0, .map (some (H.size + 1)), .bool s.off, .int .i64 s.fuse, .int .i64 s.ops] 89) := d4
  have l1 : hget H4 b 1 = some (.map (some mb)) := by rw [hget_cells d4']; rfl
  simp only [go_sem, ↓reduceIte, Nat.reduceEqDiff, Nat.reduceLeDiff, Nat.reduceAdd, Nat.reduceMul, Nat.reduceSub, Nat.reduceBEq, Nat.reduceGT, Nat.reduceLT, Int.reduceLE, Int.reduceLT, Int.reduceNeg, reduceCtorEq, l1]
  refine RunI.by (range_run (und_map ty85) mm4) ?_
  rintro _ _ ⟨rfl, rfl⟩
  rw [s4]
  have s5 : (H4.push (.mapIter (some mb) c #[] c)).size = H.size + 3 := by simp [s4]
  have i5 : IterH (H4.push (.mapIter (some mb) c #[] c)) (H.size + 2) mb #[] c := by have := push_new (H := H4) (x := .mapIter (some mb) c #[] c); rwa [s4] at this
  have k5 : ∀ g, g < H.size + 2 → (H4.push (.mapIter (some mb) c #[] c))[g]? = H4[g]? := fun g hg => push_old (by omega)
  generalize H4.push (.mapIter (some mb) c #[] c) = H5 at *
  simp only [go_sem, ↓reduceIte, Nat.reduceEqDiff, Nat.reduceLeDiff, Nat.reduceAdd, Nat.reduceMul, Nat.reduceSub, Nat.reduceBEq, Nat.reduceGT, Nat.reduceLT, Int.reduceLE, Int.reduceLT, Int.reduceNeg, reduceCtorEq]
  have hstf : ∀ f ∈ s.held, ∀ H' : Heap, (∀ g, g < H.size → g ≠ b → H'[g]? = H[g]?) → Stands H' f := fun f hf H' hk => by
    have hf' := h.hf f hf
    exact ⟨_, _, by rw [hk f (h.lt f hf'.1) (tag_ne hf'.2.1 h.hM (by decide : 117 ≠ 89))]; exact hf'.2.1⟩
  refine LoopI.by mixed (fun ρ H' => ∃ (seen : Array Nat) (l3 : List (Ent Nat)) (c3 : Nat), ρ 0 = ptrOf b ∧ ρ 23 = ptrOf (H.size + 2) ∧ IterH H' (H.size + 2) mb seen c ∧ MapH ptrOf H' (H.size + 1) l3 c3 ∧ (∀ f, f ∈ l3.map (·.key) ↔ ∃ e ∈ l, seen.contains e.born = true ∧ e.val = ptrOf f) ∧
    H'[b]? = some (.cells #[.int .i64 s.room, .map (some mb), .map (some H.size), .slice none 0 0, .map (some (H.size + 1)), .bool s.off, .int .i64 s.fuse, .int .i64 s.ops] 89) ∧ H'[H.size]? = some (.map (entsA Value.string l) c) ∧ H'.size = H.size + 3 ∧ ∀ g, g < H.size → g ≠ b → H'[g]? = H[g]?) (fun _ H' => leftN H' (H.size + 2) mb) ?_ ?_
  · exact ⟨#[], [], 0, by simp only [go_sem, ↓reduceIte, Nat.reduceEqDiff, Nat.reduceLeDiff, Nat.reduceAdd, Nat.reduceMul, Nat.reduceSub, Nat.reduceBEq, Nat.reduceGT, Nat.reduceLT, Int.reduceLE, Int.reduceLT, Int.reduceNeg, reduceCtorEq, ptrOf], by simp only [go_sem, ↓reduceIte, Nat.reduceEqDiff, Nat.reduceLeDiff, Nat.reduceAdd, Nat.reduceMul, Nat.reduceSub, Nat.reduceBEq, Nat.reduceGT, Nat.reduceLT, Int.reduceLE, Int.reduceLT, Int.reduceNeg, reduceCtorEq], i5, ⟨by rw [k5 _ (by omega)]; exact m4, by simp, by simp, by simp⟩, fun f => by simp, by rw [k5 _ (by omega)]; exact d4', by rw [k5 _ (by omega)]; exact n4, s5, fun g hg hne => by rw [k5 g (by omega)]; exact k4 g hg hne⟩
  clear n4 m4 k4 s4 d4 d4' l1 mm4 k5 i5 s5
  rintro ρ H6 ⟨seen, l3, c3, e0, e23, hi, m3, hmem, hM6, hL6, hsz, hk⟩
  have mm : MapH Value.string H6 mb l c := m.keep (hk mb hml hmb)
  have hmu := leftN_eq mm hi
  simp only [go_sem, ↓reduceIte, Nat.reduceEqDiff, Nat.reduceLeDiff, Nat.reduceAdd, Nat.reduceMul, Nat.reduceSub, Nat.reduceBEq, Nat.reduceGT, Nat.reduceLT, Int.reduceLE, Int.reduceLT, Int.reduceNeg, reduceCtorEq, c55_L0, e23]
  refine RunI.by (next_run mm hi) ?_
  rintro _ _ (⟨rfl, rfl, hu⟩ | ⟨e, he, rfl, rfl⟩)
  · have hall : ∀ e ∈ l, seen.contains e.born = true := fun e he => by
      cases hs : seen.contains e.born with
      | true => rfl
      | false => have := mem_unseen.2 ⟨he, hs⟩; rw [hu] at this; cases this
    have hperm := settle_held s hg m.nk hv hn hnd m3 fun f => (hmem f).trans ⟨fun ⟨e, h1, _, h2⟩ => ⟨e, h1, h2⟩, fun ⟨e, h1, h2⟩ => ⟨e, h1, hall e h1, h2⟩⟩
    obtain ⟨F', hf, hch⟩ := h.settled (lb' := H.size) (hb' := H.size + 1) (hs' := s.held.filter fun f => @decide (∃ n, s.now n = some f) (Classical.propDecidable _)) (by omega) hk (by exact hM6) ⟨l, c, ⟨hL6, m.old, m.nb, m.nk⟩, hg⟩ ⟨l3, c3, m3, hperm⟩ (Nat.le_refl _) (by omega) (by omega) (fun f hf => (List.mem_filter.1 hf).1)
    simp only [go_sem, ↓reduceIte, Nat.reduceEqDiff, Nat.reduceLeDiff, Nat.reduceAdd, Nat.reduceMul, Nat.reduceSub, Nat.reduceBEq, Nat.reduceGT, Nat.reduceLT, Int.reduceLE, Int.reduceLT, Int.reduceNeg, reduceCtorEq]
    exact ⟨F', _, _, hf, hch⟩
  · obtain ⟨hel, hes⟩ := mem_unseen.1 he
    obtain ⟨z, hz1, hz2⟩ := hv e hel
    have hlen := (unseen_push l mm.nb seen he).length_eq
    have m2 : MapH Value.string (H6.setIfInBounds (H.size + 2) (.mapIter (some mb) c (seen.push e.born) c)) mb l c := mm.keep (by rw [Array.getElem?_setIfInBounds, if_neg (by omega)])
    have i2 : IterH (H6.setIfInBounds (H.size + 2) (.mapIter (some mb) c (seen.push e.born) c)) (H.size + 2) mb (seen.push e.born) c := by
      unfold IterH; rw [Array.getElem?_setIfInBounds, if_pos rfl, if_pos (by omega)]
    have k2 : ∀ g, g < H.size + 2 → (H6.setIfInBounds (H.size + 2) (.mapIter (some mb) c (seen.push e.born) c))[g]? = H6[g]? := fun g hg => by rw [Array.getElem?_setIfInBounds, if_neg (by omega)]
    have s2 : (H6.setIfInBounds (H.size + 2) (.mapIter (some mb) c (seen.push e.born) c)).size = H6.size := by simp
    generalize H6.setIfInBounds (H.size + 2) (.mapIter (some mb) c (seen.push e.born) c) = H7 at *
    have m3' : MapH ptrOf H7 (H.size + 1) l3 c3 := m3.keep (k2 _ (by omega))
    have hM7 : H7[b]? = _ := (k2 b (by omega)).trans hM6
    have l4 : hget H7 b 4 = some (.map (some (H.size + 1))) := by rw [hget_cells hM7]; rfl
    simp only [go_sem, ↓reduceIte, Nat.reduceEqDiff, Nat.reduceLeDiff, Nat.reduceAdd, Nat.reduceMul, Nat.reduceSub, Nat.reduceBEq, Nat.reduceGT, Nat.reduceLT, Int.reduceLE, Int.reduceLT, Int.reduceNeg, reduceCtorEq, e23]
    refine OpSI.value (entry_run m2 i2 hel) ?_
    rintro _ _ ⟨rfl, rfl⟩
    have hk7 : ∀ g, g < H.size → g ≠ b → H7[g]? = H[g]? := fun g hg hne => by rw [k2 g (by omega)]; exact hk g hg hne
    obtain ⟨j, hj1, hj2⟩ := info_ty ty117
    simp only [go_sem, ↓reduceIte, Nat.reduceEqDiff, Nat.reduceLeDiff, Nat.reduceAdd, Nat.reduceMul, Nat.reduceSub, Nat.reduceBEq, Nat.reduceGT, Nat.reduceLT, Int.reduceLE, Int.reduceLT, Int.reduceNeg, reduceCtorEq, e0, ptrOf, l4, hz2]
    refine OpSI.skip (update_run (keyed_ptr (und_ptr ty115) hj1 (by rw [hj2]; decide)) (und_map ty86) m3' z (.bool true) (hstf z (hn _ _ hz1) H7 hk7) fun y hy => ?_) ?_
    · obtain ⟨e', he', _, hv'⟩ := (hmem y.key).1 (List.mem_map.2 ⟨y, hy, rfl⟩)
      obtain ⟨z', h1, h2⟩ := hv e' he'
      have := ptrOf_inj (h2.symm.trans hv')
      subst this
      exact hstf _ (hn _ _ h1) H7 hk7
    · rintro H8 ⟨c8, m8, s8, k8⟩
      simp only [go_sem, ↓reduceIte, Nat.reduceEqDiff, Nat.reduceLeDiff, Nat.reduceAdd, Nat.reduceMul, Nat.reduceSub, Nat.reduceBEq, Nat.reduceGT, Nat.reduceLT, Int.reduceLE, Int.reduceLT, Int.reduceNeg, reduceCtorEq]
      have i8 : IterH H8 (H.size + 2) mb (seen.push e.born) c := by unfold IterH; rw [k8 _ (by omega)]; exact i2
      have mm8 : MapH Value.string H8 mb l c := m2.keep (k8 _ (by omega))
      refine ⟨Hold.mk ⟨seen.push e.born, _, c8, by simp only [go_sem, ↓reduceIte, Nat.reduceEqDiff, Nat.reduceLeDiff, Nat.reduceAdd, Nat.reduceMul, Nat.reduceSub, Nat.reduceBEq, Nat.reduceGT, Nat.reduceLT, Int.reduceLE, Int.reduceLT, Int.reduceNeg, reduceCtorEq, e0, ptrOf], by simp only [go_sem, ↓reduceIte, Nat.reduceEqDiff, Nat.reduceLeDiff, Nat.reduceAdd, Nat.reduceMul, Nat.reduceSub, Nat.reduceBEq, Nat.reduceGT, Nat.reduceLT, Int.reduceLE, Int.reduceLT, Int.reduceNeg, reduceCtorEq, e23], i8, m8, fun f => ?_, by rw [k8 _ (by omega)]; exact hM7, by rw [k8 _ (by omega), k2 _ (by omega)]; exact hL6, by omega, fun g hg hne => by rw [k8 _ (by omega)]; exact hk7 g hg hne⟩, ?_⟩
      · have hin : f ∈ (setM l3 c3 z (.bool true)).map (·.key) ↔ f ∈ l3.map (·.key) ∨ f = z := by
          rw [keys_set]
          split
          · rename_i hz; exact ⟨.inl, fun h => h.elim id fun h => h ▸ hz⟩
          · simp
        rw [hin, hmem]
        constructor
        · rintro (⟨y, h1, h2, h3⟩ | rfl)
          · exact ⟨y, h1, by rw [contains_push, h2]; rfl, h3⟩
          · exact ⟨e, hel, by rw [contains_push]; simp, hz2⟩
        · rintro ⟨y, h1, h2, h3⟩
          rw [contains_push, Bool.or_eq_true, beq_iff_eq] at h2
          rcases h2 with h2 | h2
          · exact .inl ⟨y, h1, h2, h3⟩
          · have := nodup_map_inj m.nb h1 hel h2
            subst this
            exact .inr (ptrOf_inj (h3.symm.trans hz2))
      · rw [leftN_eq mm8 i8, hmu, hlen]
        simp
set_option maxHeartbeats 800000 in
theorem F70 (h : FsP H F b mb lb hb pv dv s) (ok : Ok s) (hn : s.ops < 1099511627776) :
    Fun Tryz.prog 70 #[ptrOf b] H (fun r H' => r = .int .i64 (syncDirS s).2 ∧ ∃ F', FsH H' F' b (syncDirS s).1 ∧ Ch F F' H H') := by
  refine fun_of mixed (args := [_]) Tryz.func70 Tryz.ntmps70 b70 r70 rfl ?_
  obtain ⟨g0, g1, g2, g3, g4, g5, g6, g7⟩ := h.get
  have N := ok.num hn
  cases c1 : s.off with
  | true =>
    have e : syncDirS s = (s, 81) := by unfold syncDirS; rw [c1, if_pos rfl]
    rw [e]
    rw [c1] at g5
    simp only [go_sem, ↓reduceIte, Nat.reduceEqDiff, Nat.reduceLeDiff, Nat.reduceAdd, Nat.reduceMul, Nat.reduceSub, Nat.reduceBEq, Nat.reduceGT, Nat.reduceLT, Int.reduceLE, Int.reduceLT, Int.reduceNeg, reduceCtorEq, ptrOf, g5]
    exact ⟨F, ⟨_, _, _, _, _, h⟩, Ch.refl _ _⟩
  | false =>
    rw [c1] at g5
    simp only [go_sem, ↓reduceIte, Nat.reduceEqDiff, Nat.reduceLeDiff, Nat.reduceAdd, Nat.reduceMul, Nat.reduceSub, Nat.reduceBEq, Nat.reduceGT, Nat.reduceLT, Int.reduceLE, Int.reduceLT, Int.reduceNeg, reduceCtorEq, ptrOf, g5]
    refine FunI.by (F179 h N.fuse ⟨N.ops.1, by have := N.ops; omega⟩) ?_
    rintro _ H2 ⟨rfl, h2, ch2⟩
    obtain ⟨_, en, _, _, eh, _⟩ := count_same s
    by_cases c0 : (countS s).2 = 0
    · have e : syncDirS s = (settleS (countS s).1, 0) := by unfold syncDirS; rw [c1, if_neg (by simp), if_pos c0]
      rw [e]
      simp only [go_sem, ↓reduceIte, Nat.reduceEqDiff, Nat.reduceLeDiff, Nat.reduceAdd, Nat.reduceMul, Nat.reduceSub, Nat.reduceBEq, Nat.reduceGT, Nat.reduceLT, Int.reduceLE, Int.reduceLT, Int.reduceNeg, reduceCtorEq, c0]
      refine FunI.by (F55 h2 (by rw [en, eh]; exact ok.nowH) (by rw [eh]; exact ok.nd)) ?_
      rintro r3 H3 ⟨F', lb', hb', h3, ch3⟩
      simp only [go_sem, ↓reduceIte, Nat.reduceEqDiff, Nat.reduceLeDiff, Nat.reduceAdd, Nat.reduceMul, Nat.reduceSub, Nat.reduceBEq, Nat.reduceGT, Nat.reduceLT, Int.reduceLE, Int.reduceLT, Int.reduceNeg, reduceCtorEq]
      exact ⟨F', ⟨_, _, _, _, _, h3⟩, ch2.trans ch3⟩
    · have e : syncDirS s = countS s := by unfold syncDirS; rw [c1, if_neg (by simp), if_neg c0]
      rw [e]
      simp only [go_sem, ↓reduceIte, Nat.reduceEqDiff, Nat.reduceLeDiff, Nat.reduceAdd, Nat.reduceMul, Nat.reduceSub, Nat.reduceBEq, Nat.reduceGT, Nat.reduceLT, Int.reduceLE, Int.reduceLT, Int.reduceNeg, reduceCtorEq, c0]
      exact ⟨F, ⟨_, _, _, _, _, h2⟩, ch2⟩
end
end Go.Proofs.YtgigigchjnnonaaGreatDoor
