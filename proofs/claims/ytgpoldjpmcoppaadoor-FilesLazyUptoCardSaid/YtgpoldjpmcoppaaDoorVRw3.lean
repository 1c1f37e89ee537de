/- The reference's frames: Encode, Decode. -/
import Derived.Test.YtgpoldjpmcoppaaDoorVRd
import Derived.Test.YtgpoldjpmcoppaaDoorVPln9b
set_option linter.unusedSimpArgs false
set_option linter.unusedVariables false
set_option maxRecDepth 20000
namespace Go.Proofs.YtgpoldjpmcoppaaDoor
open Go Go.V
-- 83: pith/pithref3.four
-- 72: pith/pithref3.Encode
-- 43: pith/pithref3.Decode
-- 52: pith/pithref2.Sum
-- 51: pith/pithref.Bytes
-- 14: pith/pithref.SameBytes
-- 20: pith/pithref.SameFrame
-- 5: uint8
-- 22: []uint8
-- 44: api.Frame
theorem F83 (X : Int) (H : Heap) (h : 0 ≤ X ∧ X < 4294967296) : Fun Tryd.prog 83 #[.int .u32 X] H (fun r H' => V.Own H' H.size 5 1 r ((be4 X).map (.int .u8)) ∧ Ext H H') := by
  refine fun_of mixed (args := [_]) Tryd.func83 Tryd.ntmps83 b83 r83 rfl ?_
  obtain ⟨s1, s2, s3⟩ := u32_shr h.1
  simp only [go_sem, ↓reduceIte, Nat.reduceEqDiff, Nat.reduceLeDiff, Nat.reduceAdd, Nat.reduceMul, Nat.reduceSub, Nat.reduceBEq, Nat.reduceGT, Nat.reduceLT, Int.reduceLE, Int.reduceLT, Int.reduceNeg, reduceCtorEq, s1, s2, s3, wu8]
  exact ⟨Own.raw (vs := [_, _, _, _]) push_new rfl (Nat.le_refl _) (by unfold maxLen; omega), Ext.push _⟩
theorem app1 {H H1 : Heap} {v y : Value} {xs ys : List Int} (ho : V.Own H1 H.size 5 1 v (xs.map (.int .u8))) (hy : Ints H1 5 .u8 y ys) (hl : xs.length + ys.length ≤ 140737488350000) (x1 : Ext H H1) :
    RunS Tryd.prog (sAppend #[22, 22] #[v, y]) H1 (fun v' H' => V.Own H' H.size 5 1 v' ((xs ++ ys).map (.int .u8)) ∧ Ext H H' ∧ But (blk v) H1 H') := by
  refine (append_own (sz := 1) (by' := 1) ty22 ty5 rfl rfl rfl (by decide) ho hy (by intro u hu; obtain ⟨x, _, rfl⟩ := List.mem_map.1 hu; rfl) (n := xs.length + ys.length) (by simp only [List.length_map, Nat.mul_one]) (by omega) (by omega) x1.size).mono ?_
  rintro v2 H2 ⟨o2, bt, _, _⟩
  exact ⟨by rw [List.map_append]; exact o2, Upto.trans x1 (bt.upto (fun k hk => (ho.blk hk).1) x1.size), bt⟩
theorem quo_nat (n : Nat) : IntKind.i64.wrap (Int.tdiv (n : Int) 256) = (n : Int) / 256 ∨ 9223372036854775808 ≤ n := by
  rcases Nat.lt_or_ge n 9223372036854775808 with h | h
  · left
    have : Int.tdiv (n : Int) 256 = (n : Int) / 256 := Int.tdiv_eq_ediv_of_nonneg (by omega)
    rw [this]
    exact w64_id (by omega) (by omega)
  · exact .inr h
set_option maxHeartbeats 1600000 in
theorem F72 {k : Int} {v : Value} {p : List Int} {H : Heap} (hv : Ints H 5 .u8 v p) (hb : Byt p) (hl : p.length < 140737488350000) :
    Fun Tryd.prog 72 #[.agg #[.int .i64 k, v]] H (fun r H' => ∃ u, r = .tuple #[u, .int .i64 (encE k p)] ∧ V.Own H' H.size 5 1 u ((encO k p).map (.int .u8)) ∧ Ext H H') := by
  obtain ⟨a, cap, rfl⟩ := hv.form
  refine fun_of mixed (args := [_]) Tryd.func72 Tryd.ntmps72 b72 r72 rfl ?_
  have x1 : Ext H (H.push (.cells #[.int .i64 k, .slice a p.length cap] 44)) := Ext.push _
  have k1 : (H.push (.cells #[.int .i64 k, .slice a p.length cap] 44))[H.size]? = some (.cells #[.int .i64 k, .slice a p.length cap] 44) := push_new
  have hv1 := hv.ext x1
  obtain ⟨H1, hH⟩ : ∃ H1, H1 = H.push (.cells #[.int .i64 k, .slice a p.length cap] 44) := ⟨_, rfl⟩
  rw [← hH] at x1 k1 hv1
  have q0 : hget H1 H.size 0 = some (.int .i64 k) := hget_cells k1
  have q1 : hget H1 H.size 1 = some (.slice a p.length cap) := hget_cells k1
  by_cases ck : ¬ (k = 1 ∨ k = 2 ∨ k = 3)
  · have e1 : encE k p = 30 := by unfold encE; rw [if_pos ck]
    have e2 : encO k p = [] := by unfold encO; rw [if_pos ck]
    by_cases c1 : k < 1
    · simp only [go_sem, ↓reduceIte, Nat.reduceEqDiff, Nat.reduceLeDiff, Nat.reduceAdd, Nat.reduceMul, Nat.reduceSub, Nat.reduceBEq, Nat.reduceGT, Nat.reduceLT, Int.reduceLE, Int.reduceLT, Int.reduceNeg, reduceCtorEq, ← hH, q0, c1, e1, e2]
      exact ⟨_, rfl, .inl ⟨rfl, rfl⟩, x1⟩
    · have c2 : 3 < k := by omega
      simp only [go_sem, ↓reduceIte, Nat.reduceEqDiff, Nat.reduceLeDiff, Nat.reduceAdd, Nat.reduceMul, Nat.reduceSub, Nat.reduceBEq, Nat.reduceGT, Nat.reduceLT, Int.reduceLE, Int.reduceLT, Int.reduceNeg, reduceCtorEq, ← hH, q0, c1, c2, e1, e2]
      exact ⟨_, rfl, .inl ⟨rfl, rfl⟩, x1⟩
  have ck' := Classical.not_not.1 ck
  have c1 : ¬ k < 1 := by omega
  have c2 : ¬ 3 < k := by omega
  by_cases c3 : 1024 < p.length
  · have c3' : (1024 : Int) < p.length := by omega
    have e1 : encE k p = 31 := by unfold encE; rw [if_neg ck, if_pos c3]
    have e2 : encO k p = [] := by unfold encO; rw [if_neg ck, if_pos c3]
    simp only [go_sem, ↓reduceIte, Nat.reduceEqDiff, Nat.reduceLeDiff, Nat.reduceAdd, Nat.reduceMul, Nat.reduceSub, Nat.reduceBEq, Nat.reduceGT, Nat.reduceLT, Int.reduceLE, Int.reduceLT, Int.reduceNeg, reduceCtorEq, ← hH, q0, q1, c1, c2, c3', e1, e2]
    exact ⟨_, rfl, .inl ⟨rfl, rfl⟩, x1⟩
  have c3' : ¬ (1024 : Int) < p.length := by omega
  have e1 : encE k p = 0 := by unfold encE; rw [if_neg ck, if_neg c3]
  have e2 : encO k p = encL k p := by unfold encO; rw [if_neg ck, if_neg c3]
  have d1 : IntKind.i64.wrap (Int.tdiv (p.length : Int) 256) = (p.length : Int) / 256 := by
    rcases quo_nat p.length with h | h
    · exact h
    · omega
  have d2 : Int.tmod (p.length : Int) 256 = (p.length : Int) % 256 := Int.tmod_eq_emod_of_nonneg (by omega)
  have d3 : ((p.length : Int) % 256) % 256 = (p.length : Int) % 256 := by omega
  simp only [go_sem, ↓reduceIte, Nat.reduceEqDiff, Nat.reduceLeDiff, Nat.reduceAdd, Nat.reduceMul, Nat.reduceSub, Nat.reduceBEq, Nat.reduceGT, Nat.reduceLT, Int.reduceLE, Int.reduceLT, Int.reduceNeg, reduceCtorEq, ← hH, q0, q1, c1, c2, c3', e1, e2, d1, d2, d3, wu8]
  have x2 : Ext H1 (H1.push (.cells #[.int .u8 112, .int .u8 (k % 256), .int .u8 ((p.length : Int) / 256 % 256), .int .u8 ((p.length : Int) % 256)] 5)) := Ext.push _
  have o2 : V.Own (H1.push (.cells #[.int .u8 112, .int .u8 (k % 256), .int .u8 ((p.length : Int) / 256 % 256), .int .u8 ((p.length : Int) % 256)] 5)) H1.size 5 1 (.slice (some ⟨H1.size, 0, none⟩) 4 4) ((headB k p.length).map (.int .u8)) :=
    Own.raw (vs := [_, _, _, _]) push_new rfl (Nat.le_refl _) (by unfold maxLen; omega)
  have k2 := x2.old k1
  have hv2 := hv1.ext x2
  obtain ⟨H2, hH2⟩ : ∃ H2, H2 = (H1.push (.cells #[.int .u8 112, .int .u8 (k % 256), .int .u8 ((p.length : Int) / 256 % 256), .int .u8 ((p.length : Int) % 256)] 5)) := ⟨_, rfl⟩
  rw [← hH2] at x2 o2 k2 hv2 ⊢
  have bh : Byt (headB k p.length) := by intro x hx; simp [headB] at hx; omega
  refine ⟨by decide, by decide, FunI.by (F52 o2.sl bh (by simp [headB])) ?_⟩
  rintro _ _ ⟨rfl, rfl⟩
  have e3 : wI (crcW 0#32 (headB k p.length)) = sumI (headB k p.length) := rfl
  rw [e3]
  have b3 := sumI_lt (headB k p.length)
  obtain ⟨X, hX⟩ : ∃ X, X = sumI (headB k p.length) := ⟨_, rfl⟩
  rw [← hX] at b3 ⊢
  simp only [go_sem, ↓reduceIte, Nat.reduceEqDiff, Nat.reduceLeDiff, Nat.reduceAdd, Nat.reduceMul, Nat.reduceSub, Nat.reduceBEq, Nat.reduceGT, Nat.reduceLT, Int.reduceLE, Int.reduceLT, Int.reduceNeg, reduceCtorEq]
  refine FunI.by (F83 X H2 b3) ?_
  rintro u H3 ⟨ou, x3⟩
  obtain ⟨ua, uc, rfl⟩ := Ints.form (xs := be4 X) (k := .u8) ou.sl
  have o3 := o2.ext x3
  have k3 := x3.old k2
  have hv3 := hv2.ext x3
  simp only [go_sem, ↓reduceIte, Nat.reduceEqDiff, Nat.reduceLeDiff, Nat.reduceAdd, Nat.reduceMul, Nat.reduceSub, Nat.reduceBEq, Nat.reduceGT, Nat.reduceLT, Int.reduceLE, Int.reduceLT, Int.reduceNeg, reduceCtorEq]
  have x13 := Upto.ext x2 x2.size x3
  refine RunI.by (app1 (H := H1) o3 ou.sl (by simp [headB, be4]) x13) ?_
  rintro v4 H4 ⟨o4, x14, bt4⟩
  have k4 := x14.old k1
  have hv4 := hv1.ext x14
  have q4 : hget H4 H.size 1 = some (.slice a p.length cap) := hget_cells k4
  obtain ⟨va, vc, rfl⟩ := Ints.form (xs := headB k p.length ++ be4 X) (k := .u8) o4.sl
  simp only [go_sem, ↓reduceIte, Nat.reduceEqDiff, Nat.reduceLeDiff, Nat.reduceAdd, Nat.reduceMul, Nat.reduceSub, Nat.reduceBEq, Nat.reduceGT, Nat.reduceLT, Int.reduceLE, Int.reduceLT, Int.reduceNeg, reduceCtorEq, q4]
  refine RunI.by (app1 (H := H1) o4 hv4 (by simp [headB, be4]; omega) x14) ?_
  rintro v5 H5 ⟨o5, x15, _⟩
  have k5 := x15.old k1
  have hv5 := hv1.ext x15
  have q5 : hget H5 H.size 1 = some (.slice a p.length cap) := hget_cells k5
  obtain ⟨wa, wc, rfl⟩ := Ints.form (xs := headB k p.length ++ be4 X ++ p) (k := .u8) o5.sl
  simp only [go_sem, ↓reduceIte, Nat.reduceEqDiff, Nat.reduceLeDiff, Nat.reduceAdd, Nat.reduceMul, Nat.reduceSub, Nat.reduceBEq, Nat.reduceGT, Nat.reduceLT, Int.reduceLE, Int.reduceLT, Int.reduceNeg, reduceCtorEq, q5]
  refine FunI.by (F52 hv5 hb (by omega)) ?_
  rintro _ _ ⟨rfl, rfl⟩
  have e4 : wI (crcW 0#32 p) = sumI p := rfl
  rw [e4]
  have b4 := sumI_lt p
  obtain ⟨Y, hY⟩ : ∃ Y, Y = sumI p := ⟨_, rfl⟩
  rw [← hY] at b4 ⊢
  simp only [go_sem, ↓reduceIte, Nat.reduceEqDiff, Nat.reduceLeDiff, Nat.reduceAdd, Nat.reduceMul, Nat.reduceSub, Nat.reduceBEq, Nat.reduceGT, Nat.reduceLT, Int.reduceLE, Int.reduceLT, Int.reduceNeg, reduceCtorEq]
  refine FunI.by (F83 Y H5 b4) ?_
  rintro u6 H6 ⟨ou6, x6⟩
  obtain ⟨u6a, u6c, rfl⟩ := Ints.form (xs := be4 Y) (k := .u8) ou6.sl
  simp only [go_sem, ↓reduceIte, Nat.reduceEqDiff, Nat.reduceLeDiff, Nat.reduceAdd, Nat.reduceMul, Nat.reduceSub, Nat.reduceBEq, Nat.reduceGT, Nat.reduceLT, Int.reduceLE, Int.reduceLT, Int.reduceNeg, reduceCtorEq]
  refine RunI.by (app1 (H := H1) (o5.ext x6) ou6.sl (by simp [headB, be4]; omega) (Upto.ext x15 x15.size x6)) ?_
  rintro v7 H7 ⟨o7, x17, _⟩
  simp only [go_sem, ↓reduceIte, Nat.reduceEqDiff, Nat.reduceLeDiff, Nat.reduceAdd, Nat.reduceMul, Nat.reduceSub, Nat.reduceBEq, Nat.reduceGT, Nat.reduceLT, Int.reduceLE, Int.reduceLT, Int.reduceNeg, reduceCtorEq]
  rw [e1, e2]
  refine ⟨_, rfl, ?_, Upto.ext x1 x1.size x17⟩
  have : encL k p = headB k p.length ++ be4 X ++ p ++ be4 Y := by rw [hX, hY]; rfl
  rw [this]
  exact o7.mono x1.size
/-- Decode as the reference has it. -/
theorem decF_ref {bs : List Int} (hb : Byt bs) (h12 : ¬ bs.length < 12) : decF bs =
    (let n := bs.getD 2 0 * 256 + bs.getD 3 0
     if (bs.length : Int) < 12 + n then (0, [], 0, 32) else
     if encE (bs.getD 1 0) ((bs.drop 8).take n.toNat) ≠ 0 ∨ encO (bs.getD 1 0) ((bs.drop 8).take n.toNat) ≠ bs.take (12 + n.toNat) then (0, [], 0, 32) else (bs.getD 1 0, (bs.drop 8).take n.toNat, 12 + n, 0)) := by
  have h2 := byt_getD hb 2
  have h3 := byt_getD hb 3
  unfold decF
  rw [if_neg h12]
  obtain ⟨n, hn⟩ : ∃ n, n = bs.getD 2 0 * 256 + bs.getD 3 0 := ⟨_, rfl⟩
  obtain ⟨k, hk⟩ : ∃ k, k = bs.getD 1 0 := ⟨_, rfl⟩
  simp only
  rw [← hn, ← hk]
  by_cases c1 : (bs.length : Int) < 12 + n
  · rw [if_pos (.inr (.inr (.inl c1))), if_pos c1]
  rw [if_neg c1]
  obtain ⟨N, rfl⟩ : ∃ N : Nat, n = N := ⟨n.toNat, by omega⟩
  simp only [Int.toNat_natCast]
  have lp : ((bs.drop 8).take N).length = N := by rw [List.length_take, List.length_drop]; omega
  have ep : bs.take (12 + N) = bs.take 8 ++ ((bs.drop 8).take N ++ (bs.drop (8 + N)).take 4) := by
    rw [show 12 + N = 8 + (N + 4) by omega, List.take_add, List.take_add, List.drop_drop]
  by_cases c2 : ¬ (k = 1 ∨ k = 2 ∨ k = 3)
  · rw [if_pos (.inl c2), if_pos (.inl (by unfold encE; rw [if_pos c2]; decide))]
  have c2' := Classical.not_not.1 c2
  by_cases c3 : 1024 < (N : Int)
  · rw [if_pos (.inr (.inl c3)), if_pos (.inl (by unfold encE; rw [if_neg c2, lp, if_pos (by omega)]; decide))]
  have hE : encE k ((bs.drop 8).take N) = 0 := encE_ok c2' (by omega)
  have hO : encO k ((bs.drop 8).take N) = headL k N ++ ((bs.drop 8).take N ++ be4 (sumI ((bs.drop 8).take N))) := by
    unfold encO; rw [if_neg c2, lp, if_neg (by omega)]; unfold encL; rw [lp, List.append_assoc]
  rw [hE, hO, ep]
  by_cases c4 : bs.take 8 = headL k N
  · rw [if_neg (by rintro (h | h | h | h); exact h c2'; exact c3 h; exact c1 h; exact h c4)]
    by_cases c5 : (bs.drop (8 + N)).take 4 = be4 (sumI ((bs.drop 8).take N))
    · rw [if_neg (not_not_intro c5), if_neg]
      rintro (h | h)
      · exact h rfl
      · exact h (by rw [c4, c5])
    · rw [if_pos c5, if_pos]
      right
      intro h
      rw [c4] at h
      exact c5 (List.append_cancel_left (List.append_cancel_left h)).symm
  · rw [if_pos (.inr (.inr (.inr c4))), if_pos]
    right
    intro h
    have := (List.append_inj h (by rw [headL_len, List.length_take]; omega)).1
    exact c4 this.symm
set_option maxHeartbeats 1600000 in
theorem F43 {v : Value} {bs : List Int} {H : Heap} (hv : Ints H 5 .u8 v bs) (hb : Byt bs) (hl : bs.length < 9223372036854775807) :
    Fun Tryd.prog 43 #[v] H (fun r H' => ∃ u, r = .tuple #[.agg #[.int .i64 (decF bs).1, u], .int .i64 (decF bs).2.2.1, .int .i64 (decF bs).2.2.2] ∧ V.Own H' H.size 5 1 u ((decF bs).2.1.map (.int .u8)) ∧ Ext H H') := by
  obtain ⟨a, cap, rfl⟩ := hv.form
  refine fun_of mixed (args := [_]) Tryd.func43 Tryd.ntmps43 b43 r43 rfl ?_
  simp only [go_sem, ↓reduceIte, Nat.reduceEqDiff, Nat.reduceLeDiff, Nat.reduceAdd, Nat.reduceMul, Nat.reduceSub, Nat.reduceBEq, Nat.reduceGT, Nat.reduceLT, Int.reduceLE, Int.reduceLT, Int.reduceNeg, reduceCtorEq]
  by_cases c0 : bs.length < 12
  · have c0' : ((bs.length : Int)) < 12 := by omega
    have hd : decF bs = (0, [], 0, 32) := by unfold decF; rw [if_pos c0]
    simp only [go_sem, ↓reduceIte, Nat.reduceEqDiff, Nat.reduceLeDiff, Nat.reduceAdd, Nat.reduceMul, Nat.reduceSub, Nat.reduceBEq, Nat.reduceGT, Nat.reduceLT, Int.reduceLE, Int.reduceLT, Int.reduceNeg, reduceCtorEq, c0', hd, List.map]
    exact decErr (Ext.push _) push_new
  have c0' : ¬ ((bs.length : Int)) < 12 := by omega
  have hD := decF_ref hb c0
  obtain ⟨g, o, rfl⟩ := hv.at (i := 0) (by omega)
  have x1 : Ext H (H.push (.cells #[.int .i64 0, .slice none 0 0] 44)) := Ext.push _
  have hg : ∀ i, i < bs.length → hget (H.push (.cells #[.int .i64 0, .slice none 0 0] 44)) g (o + i) = some (.int .u8 (bs.getD i 0)) := fun i hi => (hv.ext x1).get hi
  have hg1 := hg 1 (by omega)
  have hg2 := hg 2 (by omega)
  have hg3 := hg 3 (by omega)
  have b1 := byt_getD hb 1
  have b2 := byt_getD hb 2
  have b3 := byt_getD hb 3
  obtain ⟨k, hk⟩ : ∃ k, k = bs.getD 1 0 := ⟨_, rfl⟩
  obtain ⟨n1, hn1⟩ : ∃ k, k = bs.getD 2 0 := ⟨_, rfl⟩
  obtain ⟨n2, hn2⟩ : ∃ k, k = bs.getD 3 0 := ⟨_, rfl⟩
  rw [← hk] at hg1 b1 hD
  rw [← hn1] at hg2 b2 hD
  rw [← hn2] at hg3 b3 hD
  have e1 : IntKind.i64.wrap k = k := w64_id (by omega) (by omega)
  have e2 : IntKind.i64.wrap n1 = n1 := w64_id (by omega) (by omega)
  have e3 : IntKind.i64.wrap n2 = n2 := w64_id (by omega) (by omega)
  have e4 : IntKind.i64.wrap (n1 * 256) = n1 * 256 := w64_id (by omega) (by omega)
  have e5 : IntKind.i64.wrap (n1 * 256 + n2) = n1 * 256 + n2 := w64_id (by omega) (by omega)
  have t1 : Int.toNat 1 = 1 := rfl
  have t2 : Int.toNat 2 = 2 := rfl
  have t3 : Int.toNat 3 = 3 := rfl
  have l1 : (1 : Int) < bs.length := by omega
  have l2 : (2 : Int) < bs.length := by omega
  have l3 : (3 : Int) < bs.length := by omega
  obtain ⟨N, hN⟩ : ∃ N : Nat, n1 * 256 + n2 = N := ⟨(n1 * 256 + n2).toNat, by omega⟩
  simp only [hN, Int.toNat_natCast] at hD
  rw [hN] at e5
  have e6 : IntKind.i64.wrap (12 + (N : Int)) = 12 + (N : Int) := w64_id (by omega) (by omega)
  have e7 : IntKind.i64.wrap (8 + (N : Int)) = 8 + (N : Int) := w64_id (by omega) (by omega)
  by_cases c1 : (bs.length : Int) < 12 + (N : Int)
  · rw [if_pos c1] at hD
    simp only [go_sem, ↓reduceIte, Nat.reduceEqDiff, Nat.reduceLeDiff, Nat.reduceAdd, Nat.reduceMul, Nat.reduceSub, Nat.reduceBEq, Nat.reduceGT, Nat.reduceLT, Int.reduceLE, Int.reduceLT, Int.reduceNeg, reduceCtorEq, c0', t1, t2, t3, l1, l2, l3, hg1, hg2, hg3, e1, e2, e3, e4, e5, hN, e6, c1, hD]
    exact decErr (Ext.push _) push_new
  rw [if_neg c1] at hD
  have c2 : (8 : Int) ≤ 8 + (N : Int) := by omega
  have lc := Sl.lecap hv
  have t8 : (8 + (N : Int)).toNat = 8 + N := by omega
  have t8' : Int.toNat 8 = 8 := rfl
  have t12 : (12 + (N : Int)).toNat = 12 + N := by omega
  simp only [go_sem, ↓reduceIte, Nat.reduceEqDiff, Nat.reduceLeDiff, Nat.reduceAdd, Nat.reduceMul, Nat.reduceSub, Nat.reduceBEq, Nat.reduceGT, Nat.reduceLT, Int.reduceLE, Int.reduceLT, Int.reduceNeg, reduceCtorEq, c0', t1, t2, t3, l1, l2, l3, hg1, hg2, hg3, e1, e2, e3, e4, e5, hN, e6, e7, c1, t8, t8', t12]
  rw [if_neg (show ¬ cap = 8 by omega), show 8 + N - 8 = N by omega]
  have lp : ((bs.drop 8).take N).length = N := by rw [List.length_take, List.length_drop]; omega
  have hp := ints_sub (l := 8) (h := 8 + N) hv (by omega) (by omega) (by omega)
  rw [show 8 + N - 8 = N by omega] at hp
  have hp1 := hp.ext x1
  have bp : Byt ((bs.drop 8).take N) := fun c hc => hb c (List.mem_of_mem_drop (List.mem_of_mem_take hc))
  have k1 : (H.push (.cells #[.int .i64 0, .slice none 0 0] 44))[H.size]? = some (.cells #[.int .i64 0, .slice none 0 0] 44) := push_new
  have s1 : (H.push (.cells #[.int .i64 0, .slice none 0 0] 44)).size = H.size + 1 := by simp
  have hv1 := hv.ext x1
  obtain ⟨H1, hH1⟩ : ∃ H1, H1 = (H.push (.cells #[.int .i64 0, .slice none 0 0] 44)) := ⟨_, rfl⟩
  rw [← hH1] at x1 hp1 k1 s1 hv1 ⊢
  refine ⟨⟨⟨by omega, by omega⟩, by omega⟩, ?_, Ext.push _, ?_⟩
  case' refine_1 =>
    refine FunI.by (F51 _ _ H1 hp1 (by omega)) ?_
    rintro u H2 ⟨ou, x2⟩
    obtain ⟨ua, ul, uc, rfl⟩ := ou.sl.form
    have x3 : Ext H2 (H2.push (.cells #[.int .i64 k, .slice ua ul uc] 44)) := Ext.push _
    have kA : (H2.push (.cells #[.int .i64 k, .slice ua ul uc] 44))[H2.size]? = some (.cells #[.int .i64 k, .slice ua ul uc] 44) := push_new
    have hA : H1.size ≤ H2.size := x2.size
    obtain ⟨K, hK⟩ : ∃ K, K = H2.push (.cells #[.int .i64 k, .slice ua ul uc] 44) := ⟨_, rfl⟩
    have xK : Ext H1 K := by rw [hK]; exact Upto.ext x2 x2.size x3
    have oK : V.Own K H1.size 5 1 (.slice ua ul uc) (((bs.drop 8).take N).map (.int .u8)) := by rw [hK]; exact ou.ext x3
    rw [← hK] at kA
    have q0 : hget K H2.size 0 = some (.int .i64 k) := hget_cells kA
    have q1 : hget K H2.size 1 = some (.slice ua ul uc) := hget_cells kA
    simp only [go_sem, ↓reduceIte, Nat.reduceEqDiff, Nat.reduceLeDiff, Nat.reduceAdd, Nat.reduceMul, Nat.reduceSub, Nat.reduceBEq, Nat.reduceGT, Nat.reduceLT, Int.reduceLE, Int.reduceLT, Int.reduceNeg, reduceCtorEq, ← hH1, hput_push2, ← hK, q0, q1]
    refine ⟨x2, Upto.push x2 x2.size _, rfl, hcan_of push_new (by simp), ?_⟩
    have hA2 : H.size + 1 ≤ H2.size := by omega
    have oK2 := oK.mono (B' := H.size) (by omega)
    clear hA
    clear x3 x2 ou oK
    obtain ⟨A, hA'⟩ : ∃ A, A = H2.size := ⟨_, rfl⟩
    rw [← hA'] at hA2 kA
  case' refine_2 =>
    refine FunI.by (F51 _ _ _ (hp1.ext (Ext.push _)) (by omega)) ?_
    rintro u H2 ⟨ou, x2⟩
    obtain ⟨ua, ul, uc, rfl⟩ := ou.sl.form
    have kA2 : H2[H1.size]? = some (.cells #[.int .i64 0, .slice none 0 0] 44) := x2.old push_new
    have kA : (hput H2 H1.size 0 [.int .i64 k, .slice ua ul uc])[H1.size]? = some (.cells #[.int .i64 k, .slice ua ul uc] 44) := by rw [hput_same kA2]; rfl
    have hA : H1.size ≤ H1.size := Nat.le_refl _
    obtain ⟨K, hK⟩ : ∃ K, K = hput H2 H1.size 0 [.int .i64 k, .slice ua ul uc] := ⟨_, rfl⟩
    have x12 : Ext H1 H2 := Upto.ext (Ext.push _) (by simp) x2
    have xK : Ext H1 K := by rw [hK]; exact Upto.hput x12 (Nat.le_refl _)
    have oK : V.Own K H1.size 5 1 (.slice ua ul uc) (((bs.drop 8).take N).map (.int .u8)) := by
      rw [hK]
      refine (ou.mono (by simp)).keep fun g hg => ?_
      have := (ou.blk hg).1
      rw [hput_other _ _ _ _ (by simp at this; omega)]
    rw [← hK] at kA
    have q0 : hget K H1.size 0 = some (.int .i64 k) := hget_cells kA
    have q1 : hget K H1.size 1 = some (.slice ua ul uc) := hget_cells kA
    simp only [go_sem, ↓reduceIte, Nat.reduceEqDiff, Nat.reduceLeDiff, Nat.reduceAdd, Nat.reduceMul, Nat.reduceSub, Nat.reduceBEq, Nat.reduceGT, Nat.reduceLT, Int.reduceLE, Int.reduceLT, Int.reduceNeg, reduceCtorEq, ← hH1, ← hK, q0, q1]
    refine ⟨x12, rfl, hcan_of kA2 (by simp), ?_⟩
    have hA2 : H.size + 1 ≤ H1.size := by omega
    have oK2 := oK.mono (B' := H.size) (by omega)
    clear hA oK x12 x2 ou kA2 hK
    obtain ⟨A, hA'⟩ : ∃ A, A = H1.size := ⟨_, rfl⟩
    rw [← hA'] at hA2 kA
  all_goals
    refine FunI.by (F72 oK2.sl bp (by omega)) ?_
    rintro _ H4 ⟨c4, rfl, o4, x4⟩
    obtain ⟨ca, cc, rfl⟩ := Ints.form (xs := encO k ((bs.drop 8).take N)) (k := .u8) o4.sl
    have x14 : Ext H1 H4 := Upto.ext xK xK.size x4
    have x04 : Ext H H4 := Upto.ext x1 x1.size x14
    have k4 := x14.old k1
    have kA4 := x4.old kA
    have q0 : hget H4 A 0 = some (.int .i64 k) := hget_cells kA4
    have q1 : hget H4 A 1 = some (.slice ua ul uc) := hget_cells kA4
    have hv4 := ints_take (hv.ext x04) (m := 12 + N) (by omega)
    have z0 : Int.toNat 0 = 0 := rfl
    have cE : (0 : Int) ≤ 12 + (N : Int) := by omega
    simp only [go_sem, ↓reduceIte, Nat.reduceEqDiff, Nat.reduceLeDiff, Nat.reduceAdd, Nat.reduceMul, Nat.reduceSub, Nat.reduceBEq, Nat.reduceGT, Nat.reduceLT, Int.reduceLE, Int.reduceLT, Int.reduceNeg, reduceCtorEq, e6, t12, z0, ← hA']
    refine ⟨⟨by omega, by omega⟩, ?_⟩
    refine FunI.by (F14 _ _ _ _ H4 o4.sl hv4 ?_ (fun c hc => hb c (List.mem_of_mem_take hc))) ?_
    · intro c hc
      unfold encO at hc
      split at hc
      · cases hc
      · split at hc
        · cases hc
        · exact encL_byt bp c hc
    rintro _ _ ⟨rfl, rfl⟩
    by_cases cE : encE k ((bs.drop 8).take N) ≠ 0
    · rw [if_pos (.inl cE)] at hD
      simp only [go_sem, ↓reduceIte, Nat.reduceEqDiff, Nat.reduceLeDiff, Nat.reduceAdd, Nat.reduceMul, Nat.reduceSub, Nat.reduceBEq, Nat.reduceGT, Nat.reduceLT, Int.reduceLE, Int.reduceLT, Int.reduceNeg, reduceCtorEq, cE, hD]
      exact decErr x04 k4
    have cE' := Classical.not_not.1 cE
    by_cases cO : encO k ((bs.drop 8).take N) = bs.take (12 + N)
    · rw [if_neg (by rintro (h | h); exact h cE'; exact h cO)] at hD
      simp only [go_sem, ↓reduceIte, Nat.reduceEqDiff, Nat.reduceLeDiff, Nat.reduceAdd, Nat.reduceMul, Nat.reduceSub, Nat.reduceBEq, Nat.reduceGT, Nat.reduceLT, Int.reduceLE, Int.reduceLT, Int.reduceNeg, reduceCtorEq, cE', cO, decide_true, ← hA', q0, q1, hD, e6]
      refine ⟨rfl, hcan_of k4 (by simp), load_frame rfl k4 ?_⟩
      refine ⟨_, rfl, ?_, Upto.hput x04 (Nat.le_refl _)⟩
      refine (oK2.ext x4).keep fun g' hg' => ?_
      obtain ⟨hg1, hg2, c, hc⟩ := (oK2.ext x4).blk hg'
      rw [hput_other _ _ _ _ (tag_ne hc k4 (by decide))]
    · rw [if_pos (.inr cO)] at hD
      simp only [go_sem, ↓reduceIte, Nat.reduceEqDiff, Nat.reduceLeDiff, Nat.reduceAdd, Nat.reduceMul, Nat.reduceSub, Nat.reduceBEq, Nat.reduceGT, Nat.reduceLT, Int.reduceLE, Int.reduceLT, Int.reduceNeg, reduceCtorEq, cE', cO, decide_false, hD]
      exact decErr x04 k4
end Go.Proofs.YtgpoldjpmcoppaaDoor
