/- The merger's heap: push and pop. -/
import Derived.Test.YtcgejfmbhpmjfaaVMerH
set_option linter.unusedSimpArgs false
set_option linter.unusedVariables false
set_option maxRecDepth 20000
namespace Go.Proofs.Ytcgejfmbhpmjfaa
open Go Go.V
-- 54: pith/runs.New$1
-- 63: (*pith/runs.heap[int]).push
-- 66: (*pith/runs.heap[int]).pop
-- 3: int
-- 63: []int
-- 86: runs.Merger

theorem hpI_app (hp : List Nat) (x : Nat) : hpI (hp ++ [x]) = hpI hp ++ [.int .i64 (x : Nat)] := by simp [hpI]
theorem hpI_set (hp : List Nat) (i x : Nat) : (hpI hp).set i (.int .i64 (x : Nat)) = hpI (hp.set i x) := by simp [hpI, List.map_set]
theorem hpI_len (hp : List Nat) : (hpI hp).length = hp.length := by simp [hpI]
theorem hpI_one (hp : List Nat) : ∀ u ∈ hpI hp, u.oneCell' = true := by
  intro u hu
  obtain ⟨x, _, rfl⟩ := List.mem_map.1 hu
  rfl
/-- Two of the heap's numbers change places. -/
theorem MerH.swap {H : Heap} {F : Nat → Prop} {M Cb S g cap len : Nat} {lvs : List Value} {ss : List Src} {hp : List Nat} (h : MerH H F M Cb S lvs (.slice (some ⟨g, 0, none⟩) len cap) ss hp) {i j : Nat} (hi : i < hp.length) (hj : j < hp.length) :
    hcan H g i 1 ∧ hcan (hput H g i [.int .i64 (hp.getD j 0 : Nat)]) g j 1 ∧ MerH (hput (hput H g i [.int .i64 (hp.getD j 0 : Nat)]) g j [.int .i64 (hp.getD i 0 : Nat)]) F M Cb S lvs (.slice (some ⟨g, 0, none⟩) len cap) ss (sw hp i j) ∧
      Ch F F H (hput (hput H g i [.int .i64 (hp.getD j 0 : Nat)]) g j [.int .i64 (hp.getD i 0 : Nat)]) := by
  obtain ⟨_, _, hlen⟩ := heap_at h.hh hi
  obtain ⟨_, a1, a2, a3, _⟩ := h.hh.store (i := i) (by omega) (.int .i64 (hp.getD j 0 : Nat))
  simp only [Nat.zero_add] at a1 a2 a3
  obtain ⟨_, b1, b2, b3, _⟩ := a2.store (i := j) (by omega) (.int .i64 (hp.getD i 0 : Nat))
  simp only [Nat.zero_add] at b1 b2 b3
  rw [hpI_set, hpI_set] at b2
  obtain ⟨c1, c2⟩ := h.setH (a3.trans b3) rfl b2
  exact ⟨a1, b1, c1, c2⟩
/-- The numbers of a heap are sources that hold something. -/
def Valid (ss : List Src) (x : Nat) : Prop := x < ss.length ∧ (sg ss x).l ≠ []
set_option maxHeartbeats 1600000 in
theorem F63 {H : Heap} {F : Nat → Prop} {M Cb S : Nat} {lvs : List Value} {hv : Value} {ss : List Src} {hp : List Nat} (h : MerH H F M Cb S lvs hv ss hp) {x : Nat} (hv1 : ∀ y ∈ hp, Valid ss y) (hx : Valid ss x) (hok : HeapOK (hd ss) hp) (hl : hp.length ≤ 64) :
    Fun Try.prog 63 #[.pointer (some ⟨M, 1, none⟩), .int .i64 x] H (fun r H' => r = .tuple #[] ∧ ∃ F' hv' hp', MerH H' F' M Cb S lvs hv' ss hp' ∧ hp'.Perm (hp ++ [x]) ∧ HeapOK (hd ss) hp' ∧ Ch F F' H H') := by
  refine fun_of mixed (args := [_, _]) Try.func63 Try.ntmps63 b63 r63 rfl ?_
  obtain ⟨m0, m1, m2, m3⟩ := h.getM
  obtain ⟨l1, l2, l3⟩ := h.lt
  simp only [go_sem, ↓reduceIte, Nat.reduceEqDiff, Nat.reduceLeDiff, Nat.reduceAdd, Nat.reduceMul, Nat.reduceSub, Nat.reduceBEq, Nat.reduceGT, Nat.reduceLT, Int.reduceLE, Int.reduceLT, Int.reduceNeg, reduceCtorEq, m1]
  refine RunI.by (append_lit ty63 ty3 rfl (by decide) h.hh (ys := [.int .i64 x]) (m := 1) rfl rfl (n := hp.length + 1) (by rw [hpI_len]; simp) (by show (hp.length + 1) * 8 ≤ _; omega) (by omega) (by omega)) ?_
  rintro hv1' H1 ⟨o1, g1, _⟩
  obtain ⟨hp1, e1⟩ : ∃ hp1, hp1 = hp ++ [x] := ⟨_, rfl⟩
  have hlen : hp1.length = hp.length + 1 := by rw [e1]; simp
  have hval : ∀ y ∈ hp1, Valid ss y := by
    intro y hy
    rw [e1, List.mem_append, List.mem_singleton] at hy
    rcases hy with hy | rfl
    · exact hv1 y hy
    · exact hx
  rw [← hpI_app, ← e1] at o1
  obtain ⟨can1, F1, mer1, ch1⟩ := h.newH g1.but o1 g1.at'
  obtain ⟨a1, cap1, rfl⟩ := mer1.heap_form
  simp only [go_sem, ↓reduceIte, Nat.reduceEqDiff, Nat.reduceLeDiff, Nat.reduceAdd, Nat.reduceMul, Nat.reduceSub, Nat.reduceBEq, Nat.reduceGT, Nat.reduceLT, Int.reduceLE, Int.reduceLT, Int.reduceNeg, reduceCtorEq, can1]
  have hup := up_start hok x
  rw [← e1] at hup
  generalize hput H1 M 1 [Value.slice a1 hp1.length cap1] = H2 at *
  obtain ⟨n0, n1, n2, n3⟩ := mer1.getM
  have w0 : IntKind.i64.wrap ((hp1.length : Int) - 1) = (hp.length : Int) := by rw [w64_id (by omega) (by omega)]; omega
  simp only [go_sem, ↓reduceIte, Nat.reduceEqDiff, Nat.reduceLeDiff, Nat.reduceAdd, Nat.reduceMul, Nat.reduceSub, Nat.reduceBEq, Nat.reduceGT, Nat.reduceLT, Int.reduceLE, Int.reduceLT, Int.reduceNeg, reduceCtorEq, n1, w0]
  refine ⟨rfl, ?_⟩
  rw [← e1]
  refine LoopI.by mixed (fun ρ H' => ∃ (i : Nat) (F' : Nat → Prop) (hpc : List Nat) (a : Option Addr) (cap : Nat), ρ 0 = .pointer (some ⟨M, 1, none⟩) ∧ ρ 4 = .int .i64 i ∧ i < hpc.length ∧ MerH H' F' M Cb S lvs (.slice a hpc.length cap) ss hpc ∧ hpc.Perm hp1 ∧ HeapUp (hd ss) hpc i ∧ Ch F F' H H') (fun ρ _ => (iof (ρ 4)).toNat) ?_ ?_
  · exact ⟨hp.length, F1, hp1, a1, cap1, by simp only [go_sem, ↓reduceIte, Nat.reduceEqDiff, Nat.reduceLeDiff, Nat.reduceAdd, Nat.reduceMul, Nat.reduceSub, Nat.reduceBEq, Nat.reduceGT, Nat.reduceLT, Int.reduceLE, Int.reduceLT, Int.reduceNeg, reduceCtorEq], by simp only [go_sem, ↓reduceIte, Nat.reduceEqDiff, Nat.reduceLeDiff, Nat.reduceAdd, Nat.reduceMul, Nat.reduceSub, Nat.reduceBEq, Nat.reduceGT, Nat.reduceLT, Int.reduceLE, Int.reduceLT, Int.reduceNeg, reduceCtorEq], by omega, mer1, List.Perm.refl _, hup, ch1⟩
  clear hup mer1 ch1 n0 n1 n2 n3
  rintro ρ H3 ⟨i, F3, hpc, a, cap, e0, e4, hi, mer, hpm, hup, ch⟩
  have hpl : hpc.length = hp1.length := hpm.length_eq
  by_cases hi0 : 0 < i
  · have c0 : (0 : Int) < i := by omega
    have w1 : IntKind.i64.wrap ((i : Int) - 1) = ((i - 1 : Nat) : Int) := by rw [w64_id (by omega) (by omega)]; omega
    have hu : (i - 1) / 2 < hpc.length := by omega
    obtain ⟨g, rfl, _⟩ := heap_at mer.hh hi
    have gi := heap_get mer.hh hi
    have gu := heap_get mer.hh hu
    obtain ⟨n0, n1, n2, n3⟩ := mer.getM
    have z1 : (0 : Int) ≤ i := by omega
    have z2 : (0 : Int) ≤ (((i - 1) / 2 : Nat) : Int) := by omega
    have z3 : (i : Int) < hpc.length := by omega
    have z4 : (((i - 1) / 2 : Nat) : Int) < hpc.length := by omega
    have w2 : IntKind.i64.wrap (Int.tdiv ((i - 1 : Nat) : Int) 2) = (((i - 1) / 2 : Nat) : Int) := by
      rw [Int.tdiv_eq_ediv_of_nonneg (by omega), w64_id (by omega) (by omega)]; omega
    simp only [go_sem, ↓reduceIte, Nat.reduceEqDiff, Nat.reduceLeDiff, Nat.reduceAdd, Nat.reduceMul, Nat.reduceSub, Nat.reduceBEq, Nat.reduceGT, Nat.reduceLT, Int.reduceLE, Int.reduceLT, Int.reduceNeg, reduceCtorEq, c63_L0, e0, e4, c0, w1, w2, n1, n2, gi, gu, z1, z2, z3, z4, Int.toNat_natCast, Option.bind_some]
    refine ⟨by decide, ?_⟩
    have v1 := hval _ (hpm.mem_iff.1 (mem_getD hi 0))
    have v2 := hval _ (hpm.mem_iff.1 (mem_getD hu 0))
    refine FunI.by (F54 mer v1.1 v2.1 v1.2 v2.2) ?_
    rintro _ H4 ⟨rfl, hx4⟩
    have mer4 := mer.ext hx4
    obtain ⟨n0, n1, n2, n3⟩ := mer4.getM
    have gi := heap_get mer4.hh hi
    have gu := heap_get mer4.hh hu
    cases hlt : ltP (hd ss (hpc.getD i 0)) (hd ss (hpc.getD ((i - 1) / 2) 0)) with
    | false =>
      simp only [go_sem, ↓reduceIte, Nat.reduceEqDiff, Nat.reduceLeDiff, Nat.reduceAdd, Nat.reduceMul, Nat.reduceSub, Nat.reduceBEq, Nat.reduceGT, Nat.reduceLT, Int.reduceLE, Int.reduceLT, Int.reduceNeg, reduceCtorEq]
      exact ⟨F3, _, hpc, mer4, hpm, up_done hup (.inr hlt), ch.trans hx4.ch⟩
    | true =>
      obtain ⟨s1, s2, s3, s4⟩ := mer4.swap hi hu
      simp only [go_sem, ↓reduceIte, Nat.reduceEqDiff, Nat.reduceLeDiff, Nat.reduceAdd, Nat.reduceMul, Nat.reduceSub, Nat.reduceBEq, Nat.reduceGT, Nat.reduceLT, Int.reduceLE, Int.reduceLT, Int.reduceNeg, reduceCtorEq, e0, e4, w2, n1, gi, gu, z1, z2, z3, z4, Int.toNat_natCast, Option.bind_some, s1, s2]
      exact ⟨rfl, rfl, Hold.mk ⟨(i - 1) / 2, F3, sw hpc i ((i - 1) / 2), some ⟨g, 0, none⟩, cap, by simp only [go_sem, ↓reduceIte, Nat.reduceEqDiff, Nat.reduceLeDiff, Nat.reduceAdd, Nat.reduceMul, Nat.reduceSub, Nat.reduceBEq, Nat.reduceGT, Nat.reduceLT, Int.reduceLE, Int.reduceLT, Int.reduceNeg, reduceCtorEq, e0], by simp only [go_sem, ↓reduceIte, Nat.reduceEqDiff, Nat.reduceLeDiff, Nat.reduceAdd, Nat.reduceMul, Nat.reduceSub, Nat.reduceBEq, Nat.reduceGT, Nat.reduceLT, Int.reduceLE, Int.reduceLT, Int.reduceNeg, reduceCtorEq], by rw [sw_len]; exact hu, by rw [sw_len]; exact s3, (sw_perm hi hu).trans hpm, up_step hup hi0 hi hlt, (ch.trans hx4.ch).trans s4⟩, by omega⟩
  · have c0 : ¬ (0 : Int) < i := by omega
    simp only [go_sem, ↓reduceIte, Nat.reduceEqDiff, Nat.reduceLeDiff, Nat.reduceAdd, Nat.reduceMul, Nat.reduceSub, Nat.reduceBEq, Nat.reduceGT, Nat.reduceLT, Int.reduceLE, Int.reduceLT, Int.reduceNeg, reduceCtorEq, c63_L0, e0, e4, c0]
    exact ⟨F3, _, hpc, mer, hpm, up_done hup (.inl (by omega)), ch⟩
/-- The rest behind the label. -/
def popR : Cmd := .seq c66_5 (.seq (.seq c66_6 c66_15) (.seq (.seq c66_16 c66_19) (.seq c66_20 .ret)))
theorem popR_find : findL c66_L1 0 = some (.seq .skip popR) := by kernel_rfl
set_option maxHeartbeats 3200000 in
theorem F66 {H : Heap} {F : Nat → Prop} {M Cb S : Nat} {lvs : List Value} {hv : Value} {ss : List Src} {hp : List Nat} (h : MerH H F M Cb S lvs hv ss hp) (hv1 : ∀ y ∈ hp, Valid ss y) (hok : HeapOK (hd ss) hp) (hl : hp.length ≤ 64) (hne : hp ≠ []) :
    Fun Try.prog 66 #[.pointer (some ⟨M, 1, none⟩)] H (fun r H' => r = .int .i64 (hp.getD 0 0 : Nat) ∧ ∃ F' hv' hp', MerH H' F' M Cb S lvs hv' ss hp' ∧ (hp.getD 0 0 :: hp').Perm hp ∧ HeapOK (hd ss) hp' ∧ Ch F F' H H') := by
  refine fun_of mixed (args := [_]) Try.func66 Try.ntmps66 b66 r66 rfl ?_
  have hpos : 0 < hp.length := List.length_pos_iff.2 hne
  obtain ⟨a0, cap0, rfl⟩ := h.heap_form
  obtain ⟨g, rfl, _⟩ := heap_at h.hh hpos
  obtain ⟨m0, m1, m2, m3⟩ := h.getM
  have g0 := heap_get h.hh hpos
  have gn := heap_get h.hh (i := hp.length - 1) (by omega)
  have w0 : IntKind.i64.wrap ((hp.length : Int) - 1) = ((hp.length - 1 : Nat) : Int) := by rw [w64_id (by omega) (by omega)]; omega
  obtain ⟨_, a1, a2, a3, _⟩ := h.hh.store (i := 0) hpos (.int .i64 (hp.getD (hp.length - 1) 0 : Nat))
  simp only [Nat.zero_add] at a1 a2 a3
  rw [hpI_set] at a2
  obtain ⟨mer1, ch1⟩ := h.setH a3 rfl a2
  obtain ⟨_, n1, _, _⟩ := mer1.getM
  have o2 := a2.cut (n := hp.length - 1) (by omega)
  have ecut : (hpI (hp.set 0 (hp.getD (hp.length - 1) 0))).take ((hp.length - 1) * 1) = hpI (cut1 hp) := by rw [Nat.mul_one]; simp [hpI, cut1, List.map_take]
  rw [ecut] at o2
  obtain ⟨can2, F2, mer2, ch2⟩ := mer1.newH (hv' := .slice (some ⟨g, 0, none⟩) (hp.length - 1) cap0) (But.refl _ _) o2 (.inl rfl)
  have hcap : hp.length ≤ cap0 := Sl.lecap h.hh.sl
  have hds := down_start hok
  have hcl := cut1_len hp
  have hval : ∀ y ∈ cut1 hp, Valid ss y := fun y hy => hv1 y ((cut1_perm hne).mem_iff.1 (List.mem_cons_of_mem _ hy))
  simp only [go_sem, ↓reduceIte, Nat.reduceEqDiff, Nat.reduceLeDiff, Nat.reduceAdd, Nat.reduceMul, Nat.reduceSub, Nat.reduceBEq, Nat.reduceGT, Nat.reduceLT, Int.reduceLE, Int.reduceLT, Int.reduceNeg, reduceCtorEq]
  refine ScopeI.by mixed 0 popR_find (fun ρ H' => ∃ (i : Nat) (F' : Nat → Prop) (hpc : List Nat), ρ 0 = .pointer (some ⟨M, 1, none⟩) ∧ ρ 3 = .int .i64 (hp.getD 0 0 : Nat) ∧ ρ 4 = .int .i64 hpc.length ∧ ρ 5 = .int .i64 i ∧ i ≤ hpc.length ∧
    MerH H' F' M Cb S lvs (.slice (some ⟨g, 0, none⟩) hpc.length cap0) ss hpc ∧ hpc.Perm (cut1 hp) ∧ HeapDown (hd ss) hpc i ∧ Ch F F' H H') (fun ρ _ => hp.length - (iof (ρ 5)).toNat) ?_ ?_
  · intro K hK
    show @vcI _ _ _ (.seq c66_1 (.seq c66_2 (.seq c66_3 (.seq c66_4 (.seq (.label 0) (Stop popR)))))) _ _ ⟨K⟩
    have p0 : (0 : Int) < hp.length := by omega
    have p1 : (0 : Int) ≤ ((hp.length - 1 : Nat) : Int) := by omega
    have p2 : ((hp.length - 1 : Nat) : Int) < hp.length := by omega
    have p3 : ((hp.length - 1 : Nat) : Int) ≤ cap0 := by omega
    simp only [go_sem, ↓reduceIte, Nat.reduceEqDiff, Nat.reduceLeDiff, Nat.reduceAdd, Nat.reduceMul, Nat.reduceSub, Nat.reduceBEq, Nat.reduceGT, Nat.reduceLT, Int.reduceLE, Int.reduceLT, Int.reduceNeg, reduceCtorEq, m1, g0, gn, w0, p0, p1, p2, Int.toNat_natCast, show Int.toNat 0 = 0 from rfl, a1]
    refine ⟨rfl, ?_⟩
    simp only [go_sem, ↓reduceIte, Nat.reduceEqDiff, Nat.reduceLeDiff, Nat.reduceAdd, Nat.reduceMul, Nat.reduceSub, Nat.reduceBEq, Nat.reduceGT, Nat.reduceLT, Int.reduceLE, Int.reduceLT, Int.reduceNeg, reduceCtorEq, n1, p1, p3, can2]
    refine ⟨rfl, ?_⟩
    refine hK _ _ ⟨0, F2, cut1 hp, by simp only [go_sem, ↓reduceIte, Nat.reduceEqDiff, Nat.reduceLeDiff, Nat.reduceAdd, Nat.reduceMul, Nat.reduceSub, Nat.reduceBEq, Nat.reduceGT, Nat.reduceLT, Int.reduceLE, Int.reduceLT, Int.reduceNeg, reduceCtorEq], by simp only [go_sem, ↓reduceIte, Nat.reduceEqDiff, Nat.reduceLeDiff, Nat.reduceAdd, Nat.reduceMul, Nat.reduceSub, Nat.reduceBEq, Nat.reduceGT, Nat.reduceLT, Int.reduceLE, Int.reduceLT, Int.reduceNeg, reduceCtorEq], by simp only [go_sem, ↓reduceIte, Nat.reduceEqDiff, Nat.reduceLeDiff, Nat.reduceAdd, Nat.reduceMul, Nat.reduceSub, Nat.reduceBEq, Nat.reduceGT, Nat.reduceLT, Int.reduceLE, Int.reduceLT, Int.reduceNeg, reduceCtorEq, hcl], by simp only [go_sem, ↓reduceIte, Nat.reduceEqDiff, Nat.reduceLeDiff, Nat.reduceAdd, Nat.reduceMul, Nat.reduceSub, Nat.reduceBEq, Nat.reduceGT, Nat.reduceLT, Int.reduceLE, Int.reduceLT, Int.reduceNeg, reduceCtorEq]; rfl, by omega, by rw [hcl]; exact mer2, List.Perm.refl _, hds, ch1.trans ch2⟩
  clear mer1 mer2 ch1 ch2 n1 o2 can2 a1 a2 a3 g0 gn m0 m1 m2 m3 hds
  rintro ρ H1 J ⟨i, F1, hpc, e0, e3, e4, e5, hi, mer, hpm, hdn, ch⟩ hJ
  have hpl : hpc.length = hp.length - 1 := by rw [hpm.length_eq, hcl]
  have e5i : iof (ρ 5) = i := by rw [e5]; rfl
  have w1 : IntKind.i64.wrap (2 * (i : Int)) = ((2 * i : Nat) : Int) := by rw [w64_id (by omega) (by omega)]; omega
  have w2 : IntKind.i64.wrap (((2 * i : Nat) : Int) + 1) = ((2 * i + 1 : Nat) : Int) := by rw [w64_id (by omega) (by omega)]; omega
  have w3 : IntKind.i64.wrap (((2 * i : Nat) : Int) + 2) = ((2 * i + 2 : Nat) : Int) := by rw [w64_id (by omega) (by omega)]; omega
  unfold popR
  simp only [go_sem, ↓reduceIte, Nat.reduceEqDiff, Nat.reduceLeDiff, Nat.reduceAdd, Nat.reduceMul, Nat.reduceSub, Nat.reduceBEq, Nat.reduceGT, Nat.reduceLT, Int.reduceLE, Int.reduceLT, Int.reduceNeg, reduceCtorEq, e5, w1, w2]
  refine LoopI.by mixed (fun ρ H' => ∃ (k m : Nat), ρ 0 = .pointer (some ⟨M, 1, none⟩) ∧ ρ 3 = .int .i64 (hp.getD 0 0 : Nat) ∧ ρ 4 = .int .i64 hpc.length ∧ ρ 5 = .int .i64 i ∧ ρ 6 = .int .i64 m ∧ ρ 7 = .int .i64 k ∧ 2 * i + 1 ≤ k ∧ k ≤ 2 * i + 3 ∧
    (m = i ∨ 2 * i + 1 ≤ m ∧ m < k ∧ m < hpc.length) ∧ ltP (hd ss (hpc.getD i 0)) (hd ss (hpc.getD m 0)) = false ∧ (∀ c, 2 * i + 1 ≤ c → c < k → c < hpc.length → ltP (hd ss (hpc.getD c 0)) (hd ss (hpc.getD m 0)) = false) ∧
    MerH H' F1 M Cb S lvs (.slice (some ⟨g, 0, none⟩) hpc.length cap0) ss hpc ∧ Ch F F1 H H') (fun ρ _ => 2 * i + 3 - (iof (ρ 7)).toNat) ?_ ?_
  · exact ⟨2 * i + 1, i, by simp only [go_sem, ↓reduceIte, Nat.reduceEqDiff, Nat.reduceLeDiff, Nat.reduceAdd, Nat.reduceMul, Nat.reduceSub, Nat.reduceBEq, Nat.reduceGT, Nat.reduceLT, Int.reduceLE, Int.reduceLT, Int.reduceNeg, reduceCtorEq, e0], by simp only [go_sem, ↓reduceIte, Nat.reduceEqDiff, Nat.reduceLeDiff, Nat.reduceAdd, Nat.reduceMul, Nat.reduceSub, Nat.reduceBEq, Nat.reduceGT, Nat.reduceLT, Int.reduceLE, Int.reduceLT, Int.reduceNeg, reduceCtorEq, e3], by simp only [go_sem, ↓reduceIte, Nat.reduceEqDiff, Nat.reduceLeDiff, Nat.reduceAdd, Nat.reduceMul, Nat.reduceSub, Nat.reduceBEq, Nat.reduceGT, Nat.reduceLT, Int.reduceLE, Int.reduceLT, Int.reduceNeg, reduceCtorEq, e4], by simp only [go_sem, ↓reduceIte, Nat.reduceEqDiff, Nat.reduceLeDiff, Nat.reduceAdd, Nat.reduceMul, Nat.reduceSub, Nat.reduceBEq, Nat.reduceGT, Nat.reduceLT, Int.reduceLE, Int.reduceLT, Int.reduceNeg, reduceCtorEq, e5], by simp only [go_sem, ↓reduceIte, Nat.reduceEqDiff, Nat.reduceLeDiff, Nat.reduceAdd, Nat.reduceMul, Nat.reduceSub, Nat.reduceBEq, Nat.reduceGT, Nat.reduceLT, Int.reduceLE, Int.reduceLT, Int.reduceNeg, reduceCtorEq], by simp only [go_sem, ↓reduceIte, Nat.reduceEqDiff, Nat.reduceLeDiff, Nat.reduceAdd, Nat.reduceMul, Nat.reduceSub, Nat.reduceBEq, Nat.reduceGT, Nat.reduceLT, Int.reduceLE, Int.reduceLT, Int.reduceNeg, reduceCtorEq], by omega, by omega, .inl rfl, lt_irrefl' _, by omega, mer, ch⟩
  clear e0 e3 e4 e5 mer ch
  rintro ρ2 H2 ⟨k, m, e0, e3, e4, e5, e6, e7, hk1, hk2, hm, hself, hall, mer, ch⟩
  obtain ⟨m0, m1, m2, m3⟩ := mer.getM
  have w4 : IntKind.i64.wrap ((k : Int) + 1) = ((k + 1 : Nat) : Int) := by rw [w64_id (by omega) (by omega)]; omega
  by_cases hkl : k ≤ 2 * i + 2 ∧ k < hpc.length
  · have q1 : (k : Int) ≤ ((2 * i + 2 : Nat) : Int) := by omega
    have q2 : (k : Int) < hpc.length := by omega
    have q3 : (0 : Int) ≤ k := by omega
    have q4 : (0 : Int) ≤ m := by omega
    have hml : m < hpc.length := by omega
    have q5 : (m : Int) < hpc.length := by omega
    have gk := heap_get mer.hh hkl.2
    have gm := heap_get mer.hh hml
    simp only [go_sem, ↓reduceIte, Nat.reduceEqDiff, Nat.reduceLeDiff, Nat.reduceAdd, Nat.reduceMul, Nat.reduceSub, Nat.reduceBEq, Nat.reduceGT, Nat.reduceLT, Int.reduceLE, Int.reduceLT, Int.reduceNeg, reduceCtorEq, c66_L0, e0, e3, e4, e5, e6, e7, w1, w3, q1, q2, q3, q4, q5, m1, m2, gk, gm, Int.toNat_natCast, Option.bind_some, decide_true]
    have v1 := hval _ (hpm.mem_iff.1 (mem_getD hkl.2 0))
    have v2 := hval _ (hpm.mem_iff.1 (mem_getD hml 0))
    refine FunI.by (F54 mer v1.1 v2.1 v1.2 v2.2) ?_
    rintro _ H4 ⟨rfl, hx4⟩
    have mer4 := mer.ext hx4
    have ch4 := ch.trans hx4.ch
    cases hlt : ltP (hd ss (hpc.getD k 0)) (hd ss (hpc.getD m 0)) with
    | true =>
      simp only [go_sem, ↓reduceIte, Nat.reduceEqDiff, Nat.reduceLeDiff, Nat.reduceAdd, Nat.reduceMul, Nat.reduceSub, Nat.reduceBEq, Nat.reduceGT, Nat.reduceLT, Int.reduceLE, Int.reduceLT, Int.reduceNeg, reduceCtorEq, e7, w4]
      refine ⟨Hold.mk ⟨k + 1, k, by simp only [go_sem, ↓reduceIte, Nat.reduceEqDiff, Nat.reduceLeDiff, Nat.reduceAdd, Nat.reduceMul, Nat.reduceSub, Nat.reduceBEq, Nat.reduceGT, Nat.reduceLT, Int.reduceLE, Int.reduceLT, Int.reduceNeg, reduceCtorEq, e0], by simp only [go_sem, ↓reduceIte, Nat.reduceEqDiff, Nat.reduceLeDiff, Nat.reduceAdd, Nat.reduceMul, Nat.reduceSub, Nat.reduceBEq, Nat.reduceGT, Nat.reduceLT, Int.reduceLE, Int.reduceLT, Int.reduceNeg, reduceCtorEq, e3], by simp only [go_sem, ↓reduceIte, Nat.reduceEqDiff, Nat.reduceLeDiff, Nat.reduceAdd, Nat.reduceMul, Nat.reduceSub, Nat.reduceBEq, Nat.reduceGT, Nat.reduceLT, Int.reduceLE, Int.reduceLT, Int.reduceNeg, reduceCtorEq, e4], by simp only [go_sem, ↓reduceIte, Nat.reduceEqDiff, Nat.reduceLeDiff, Nat.reduceAdd, Nat.reduceMul, Nat.reduceSub, Nat.reduceBEq, Nat.reduceGT, Nat.reduceLT, Int.reduceLE, Int.reduceLT, Int.reduceNeg, reduceCtorEq, e5], by simp only [go_sem, ↓reduceIte, Nat.reduceEqDiff, Nat.reduceLeDiff, Nat.reduceAdd, Nat.reduceMul, Nat.reduceSub, Nat.reduceBEq, Nat.reduceGT, Nat.reduceLT, Int.reduceLE, Int.reduceLT, Int.reduceNeg, reduceCtorEq], by simp only [go_sem, ↓reduceIte, Nat.reduceEqDiff, Nat.reduceLeDiff, Nat.reduceAdd, Nat.reduceMul, Nat.reduceSub, Nat.reduceBEq, Nat.reduceGT, Nat.reduceLT, Int.reduceLE, Int.reduceLT, Int.reduceNeg, reduceCtorEq], by omega, by omega, .inr ⟨hk1, by omega, hkl.2⟩, ?_, fun c h1 h2 h3 => ?_, mer4, ch4⟩, by omega⟩
      · exact nlt_trans (nlt_of hlt) hself
      · by_cases hck : c = k
        · rw [hck]; exact lt_irrefl' _
        · exact nlt_trans (nlt_of hlt) (hall c h1 (by omega) h3)
    | false =>
      simp only [go_sem, ↓reduceIte, Nat.reduceEqDiff, Nat.reduceLeDiff, Nat.reduceAdd, Nat.reduceMul, Nat.reduceSub, Nat.reduceBEq, Nat.reduceGT, Nat.reduceLT, Int.reduceLE, Int.reduceLT, Int.reduceNeg, reduceCtorEq, e7, w4]
      refine ⟨Hold.mk ⟨k + 1, m, by simp only [go_sem, ↓reduceIte, Nat.reduceEqDiff, Nat.reduceLeDiff, Nat.reduceAdd, Nat.reduceMul, Nat.reduceSub, Nat.reduceBEq, Nat.reduceGT, Nat.reduceLT, Int.reduceLE, Int.reduceLT, Int.reduceNeg, reduceCtorEq, e0], by simp only [go_sem, ↓reduceIte, Nat.reduceEqDiff, Nat.reduceLeDiff, Nat.reduceAdd, Nat.reduceMul, Nat.reduceSub, Nat.reduceBEq, Nat.reduceGT, Nat.reduceLT, Int.reduceLE, Int.reduceLT, Int.reduceNeg, reduceCtorEq, e3], by simp only [go_sem, ↓reduceIte, Nat.reduceEqDiff, Nat.reduceLeDiff, Nat.reduceAdd, Nat.reduceMul, Nat.reduceSub, Nat.reduceBEq, Nat.reduceGT, Nat.reduceLT, Int.reduceLE, Int.reduceLT, Int.reduceNeg, reduceCtorEq, e4], by simp only [go_sem, ↓reduceIte, Nat.reduceEqDiff, Nat.reduceLeDiff, Nat.reduceAdd, Nat.reduceMul, Nat.reduceSub, Nat.reduceBEq, Nat.reduceGT, Nat.reduceLT, Int.reduceLE, Int.reduceLT, Int.reduceNeg, reduceCtorEq, e5], by simp only [go_sem, ↓reduceIte, Nat.reduceEqDiff, Nat.reduceLeDiff, Nat.reduceAdd, Nat.reduceMul, Nat.reduceSub, Nat.reduceBEq, Nat.reduceGT, Nat.reduceLT, Int.reduceLE, Int.reduceLT, Int.reduceNeg, reduceCtorEq, e6], by simp only [go_sem, ↓reduceIte, Nat.reduceEqDiff, Nat.reduceLeDiff, Nat.reduceAdd, Nat.reduceMul, Nat.reduceSub, Nat.reduceBEq, Nat.reduceGT, Nat.reduceLT, Int.reduceLE, Int.reduceLT, Int.reduceNeg, reduceCtorEq], by omega, by omega, hm.imp id fun h => ⟨h.1, by omega, h.2.2⟩, hself, fun c h1 h2 h3 => ?_, mer4, ch4⟩, by omega⟩
      by_cases hck : c = k
      · rw [hck]; exact hlt
      · exact hall c h1 (by omega) h3
  · have hout : (¬ (k : Int) ≤ ((2 * i + 2 : Nat) : Int)) ∨ ((k : Int) ≤ ((2 * i + 2 : Nat) : Int)) ∧ ¬ (k : Int) < hpc.length := by omega
    have hmin : ∀ j, 0 < j → j < hpc.length → (j - 1) / 2 = i → ltP (hd ss (hpc.getD j 0)) (hd ss (hpc.getD m 0)) = false := fun j h1 h2 h3 => hall j (by omega) (by omega) h2
    by_cases hmi : m = i
    · have c1 : (m : Int) = i := by omega
      subst hmi
      have fin : ∃ F' hv' hp', MerH H2 F' M Cb S lvs hv' ss hp' ∧ (hp.getD 0 0 :: hp').Perm hp ∧ HeapOK (hd ss) hp' ∧ Ch F F' H H2 := ⟨F1, _, hpc, mer, (List.Perm.cons _ hpm).trans (cut1_perm hne), down_done hdn hmin, ch⟩
      rcases hout with q1 | ⟨q1, q2⟩
      · simp only [go_sem, ↓reduceIte, Nat.reduceEqDiff, Nat.reduceLeDiff, Nat.reduceAdd, Nat.reduceMul, Nat.reduceSub, Nat.reduceBEq, Nat.reduceGT, Nat.reduceLT, Int.reduceLE, Int.reduceLT, Int.reduceNeg, reduceCtorEq, c66_L0, e0, e3, e4, e5, e6, e7, w1, w3, q1, decide_true, decide_false]
        exact fin
      · simp only [go_sem, ↓reduceIte, Nat.reduceEqDiff, Nat.reduceLeDiff, Nat.reduceAdd, Nat.reduceMul, Nat.reduceSub, Nat.reduceBEq, Nat.reduceGT, Nat.reduceLT, Int.reduceLE, Int.reduceLT, Int.reduceNeg, reduceCtorEq, c66_L0, e0, e3, e4, e5, e6, e7, w1, w3, q1, q2, decide_true, decide_false]
        exact fin
    · have c1 : ¬ (m : Int) = i := by omega
      obtain ⟨hm1, hm2, hm3⟩ := hm.resolve_left hmi
      have hil : i < hpc.length := by omega
      obtain ⟨s1, s2, s3, s4⟩ := mer.swap hil hm3
      have gi := heap_get mer.hh hil
      have gm := heap_get mer.hh hm3
      have z1 : (0 : Int) ≤ i := by omega
      have z2 : (0 : Int) ≤ m := by omega
      have z3 : (i : Int) < hpc.length := by omega
      have z4 : (m : Int) < hpc.length := by omega
      rcases hout with q1 | ⟨q1, q2⟩
      · simp only [go_sem, ↓reduceIte, Nat.reduceEqDiff, Nat.reduceLeDiff, Nat.reduceAdd, Nat.reduceMul, Nat.reduceSub, Nat.reduceBEq, Nat.reduceGT, Nat.reduceLT, Int.reduceLE, Int.reduceLT, Int.reduceNeg, reduceCtorEq, c66_L0, e0, e3, e4, e5, e6, e7, w1, w3, q1, c1, m1, gi, gm, z1, z2, z3, z4, s1, s2, Int.toNat_natCast, Option.bind_some, decide_true, decide_false]
        exact ⟨rfl, rfl, Hold.mk (hJ _ _ ⟨m, F1, sw hpc i m, by simp only [go_sem, ↓reduceIte, Nat.reduceEqDiff, Nat.reduceLeDiff, Nat.reduceAdd, Nat.reduceMul, Nat.reduceSub, Nat.reduceBEq, Nat.reduceGT, Nat.reduceLT, Int.reduceLE, Int.reduceLT, Int.reduceNeg, reduceCtorEq, e0], by simp only [go_sem, ↓reduceIte, Nat.reduceEqDiff, Nat.reduceLeDiff, Nat.reduceAdd, Nat.reduceMul, Nat.reduceSub, Nat.reduceBEq, Nat.reduceGT, Nat.reduceLT, Int.reduceLE, Int.reduceLT, Int.reduceNeg, reduceCtorEq, e3], by simp only [go_sem, ↓reduceIte, Nat.reduceEqDiff, Nat.reduceLeDiff, Nat.reduceAdd, Nat.reduceMul, Nat.reduceSub, Nat.reduceBEq, Nat.reduceGT, Nat.reduceLT, Int.reduceLE, Int.reduceLT, Int.reduceNeg, reduceCtorEq, e4, sw_len], by simp only [go_sem, ↓reduceIte, Nat.reduceEqDiff, Nat.reduceLeDiff, Nat.reduceAdd, Nat.reduceMul, Nat.reduceSub, Nat.reduceBEq, Nat.reduceGT, Nat.reduceLT, Int.reduceLE, Int.reduceLT, Int.reduceNeg, reduceCtorEq], by rw [sw_len]; omega, by rw [sw_len]; exact s3, (sw_perm hil hm3).trans hpm, down_step hdn hm3 (by omega) (by omega) hself hmin, ch.trans s4⟩ (by simp only [go_sem, ↓reduceIte, Nat.reduceEqDiff, Nat.reduceLeDiff, Nat.reduceAdd, Nat.reduceMul, Nat.reduceSub, Nat.reduceBEq, Nat.reduceGT, Nat.reduceLT, Int.reduceLE, Int.reduceLT, Int.reduceNeg, reduceCtorEq, e5i]; omega))⟩
      · simp only [go_sem, ↓reduceIte, Nat.reduceEqDiff, Nat.reduceLeDiff, Nat.reduceAdd, Nat.reduceMul, Nat.reduceSub, Nat.reduceBEq, Nat.reduceGT, Nat.reduceLT, Int.reduceLE, Int.reduceLT, Int.reduceNeg, reduceCtorEq, c66_L0, e0, e3, e4, e5, e6, e7, w1, w3, q1, q2, c1, m1, gi, gm, z1, z2, z3, z4, s1, s2, Int.toNat_natCast, Option.bind_some, decide_true, decide_false]
        exact ⟨rfl, rfl, Hold.mk (hJ _ _ ⟨m, F1, sw hpc i m, by simp only [go_sem, ↓reduceIte, Nat.reduceEqDiff, Nat.reduceLeDiff, Nat.reduceAdd, Nat.reduceMul, Nat.reduceSub, Nat.reduceBEq, Nat.reduceGT, Nat.reduceLT, Int.reduceLE, Int.reduceLT, Int.reduceNeg, reduceCtorEq, e0], by simp only [go_sem, ↓reduceIte, Nat.reduceEqDiff, Nat.reduceLeDiff, Nat.reduceAdd, Nat.reduceMul, Nat.reduceSub, Nat.reduceBEq, Nat.reduceGT, Nat.reduceLT, Int.reduceLE, Int.reduceLT, Int.reduceNeg, reduceCtorEq, e3], by simp only [go_sem, ↓reduceIte, Nat.reduceEqDiff, Nat.reduceLeDiff, Nat.reduceAdd, Nat.reduceMul, Nat.reduceSub, Nat.reduceBEq, Nat.reduceGT, Nat.reduceLT, Int.reduceLE, Int.reduceLT, Int.reduceNeg, reduceCtorEq, e4, sw_len], by simp only [go_sem, ↓reduceIte, Nat.reduceEqDiff, Nat.reduceLeDiff, Nat.reduceAdd, Nat.reduceMul, Nat.reduceSub, Nat.reduceBEq, Nat.reduceGT, Nat.reduceLT, Int.reduceLE, Int.reduceLT, Int.reduceNeg, reduceCtorEq], by rw [sw_len]; omega, by rw [sw_len]; exact s3, (sw_perm hil hm3).trans hpm, down_step hdn hm3 (by omega) (by omega) hself hmin, ch.trans s4⟩ (by simp only [go_sem, ↓reduceIte, Nat.reduceEqDiff, Nat.reduceLeDiff, Nat.reduceAdd, Nat.reduceMul, Nat.reduceSub, Nat.reduceBEq, Nat.reduceGT, Nat.reduceLT, Int.reduceLE, Int.reduceLT, Int.reduceNeg, reduceCtorEq, e5i]; omega))⟩
end Go.Proofs.Ytcgejfmbhpmjfaa
