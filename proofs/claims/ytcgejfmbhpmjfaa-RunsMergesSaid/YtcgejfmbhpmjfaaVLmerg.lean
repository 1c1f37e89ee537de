/- The law RunsMerges, over heaps. -/
import Derived.Test.YtcgejfmbhpmjfaaVLenc
import Derived.Test.YtcgejfmbhpmjfaaVPlays
import Derived.Test.YtcgejfmbhpmjfaaVRow2
set_option linter.unusedSimpArgs false
set_option linter.unusedVariables false
set_option maxRecDepth 20000
namespace Go.Proofs.Ytcgejfmbhpmjfaa
open Go Go.V
-- 6: pith/pithlaw11.RunsMerges
-- 11: pith/pithlaw11.first
-- 28: pith/pithlaw11.plays
-- 26: pith/runs.New
-- 27: pith/pithref11.New
-- 3: int
-- 24: pith/api.Pair
-- 22: []api.Pair
-- 51: pithlaw11.Op
-- 45: []pithlaw11.Op
/-- An operation, as it stands among the arguments. -/
structure OpA where
  kind : Int
  i : Int
  v : Value
  l : List Pr
  last : Bool
  other : Bool
def opc (x : OpA) : List Value := [.int .i64 x.kind, .int .i64 x.i, x.v, .bool x.last, .bool x.other]
theorem opc_len (x : OpA) : (opc x).length = 5 := rfl
def Ops (H : Heap) (v : Value) (os : List OpA) : Prop := Sl H 51 5 v (os.flatMap opc) ∧ ∀ x ∈ os, Prs H x.v x.l
/-- A merger and the document's, both none or both with the same sources, in the blocks A. -/
def Slot (m r : Value) (A : Nat → Prop) (n : Nat) (H : Heap) : Prop :=
  (∀ b, A b → b < H.size) ∧ ((m = .pointer none ∧ r = .pointer none) ∨ ∃ ss F G, (∃ M R, m = .pointer (some ⟨M, 0, none⟩) ∧ r = .pointer (some ⟨R, 0, none⟩)) ∧ Mg m ss F H ∧ Rg r ss G H ∧ (∀ b, F b → ¬ G b) ∧ (∀ b, F b → A b) ∧ (∀ b, G b → A b) ∧ ∀ j, j < ss.length → (sg ss j).l.length ≤ n * 3000)
theorem prs_lt {H : Heap} {b o len cap : Nat} {ps : List Pr} (h : Prs H (.slice (some ⟨b, o, none⟩) len cap) ps) (hl : 0 < ps.length) : b < H.size := by
  have hs := Sl.length h
  rw [cp_len] at hs
  obtain ⟨_, _, _, he, _, _, h | ⟨b', o', c, t, fr, h1, h2, _⟩⟩ := h
  · cases he; omega
  · cases he; cases h1; exact (Array.getElem?_eq_some_iff.1 h2).1
theorem Slot.keep {m r : Value} {A B B' : Nat → Prop} {n : Nat} {H H' : Heap} (h : Slot m r A n H) (hc : Ch B B' H H') (hd : ∀ b, A b → ¬ B b) : Slot m r A n H' ∧ ∀ b, A b → ¬ B' b := by
  obtain ⟨h0, h⟩ := h
  refine ⟨⟨fun b hb => Nat.lt_of_lt_of_le (h0 b hb) hc.size, ?_⟩, fun b hb => hc.notin (h0 b hb) (hd b hb)⟩
  rcases h with h | ⟨ss, F, G, hp, h1, h2, h3, h4, h5, h6⟩
  · exact .inl h
  · exact .inr ⟨ss, F, G, hp, (h1.keep hc fun b hb => hd b (h4 b hb)).1, (h2.keep hc fun b hb => hd b (h5 b hb)).1, h3, h4, h5, h6⟩
theorem Slot.mono {m r : Value} {A : Nat → Prop} {n n' : Nat} {H : Heap} (h : Slot m r A n H) (hn : n ≤ n') : Slot m r A n' H := by
  obtain ⟨h0, h⟩ := h
  refine ⟨h0, ?_⟩
  rcases h with h | ⟨ss, F, G, hp, h1, h2, h3, h4, h5, h6⟩
  · exact .inl h
  · exact .inr ⟨ss, F, G, hp, h1, h2, h3, h4, h5, fun j hj => Nat.le_trans (h6 j hj) (Nat.mul_le_mul_right _ hn)⟩
theorem Slot.ext {m r : Value} {A : Nat → Prop} {n : Nat} {H H' : Heap} (h : Slot m r A n H) (hx : Ext H H') : Slot m r A n H' := (h.keep (B := fun _ => False) (Ext.ch hx) (fun _ _ h => h)).1
theorem slot_start {k : Nat} {m r : Value} {F G : Nat → Prop} {H : Heap} {M R : Nat} (hm : m = .pointer (some ⟨M, 0, none⟩)) (hr : r = .pointer (some ⟨R, 0, none⟩)) (h1 : Mg m (List.replicate k default) F H) (h2 : Rg r (List.replicate k default) G H) (hd : ∀ b, F b → ¬ G b) : Slot m r (fun b => F b ∨ G b) 0 H := by
  refine ⟨fun b hb => ?_, .inr ⟨_, F, G, ⟨M, R, hm, hr⟩, h1, h2, hd, fun b hb => .inl hb, fun b hb => .inr hb, fun j hj => ?_⟩⟩
  · rcases hb with hb | hb
    · exact h1.lt hb
    · exact h2.lt hb
  · rw [List.length_replicate] at hj
    unfold sg
    rw [List.getD_eq_getElem?_getD, List.getElem?_replicate, if_pos hj]
    exact Nat.zero_le _
/-- Both New, whatever the number. -/
theorem two_new (k : Int) : (∀ H, Fun Try.prog 26 #[.int .i64 k] H (fun r H' => r = .pointer none ∧ H = H') ∧ Fun Try.prog 27 #[.int .i64 k] H (fun r H' => r = .pointer none ∧ H = H')) ∨ ∃ n : Nat, k = n ∧ n ≤ 64 := by
  by_cases h : k < 0 ∨ 64 < k
  · exact .inl fun H => ⟨F26_none k H h, F27_none k H h⟩
  · exact .inr ⟨k.toNat, by omega, by omega⟩
set_option maxHeartbeats 3200000 in
theorem F6 (k k' : Int) (v2 : Value) (os : List OpA) (H : Heap) (hv2 : Ops H v2 os) :
    Fun Try.prog 6 #[.int .i64 k, .int .i64 k', v2] H (fun r H' => r = .bool true ∧ Ext H H') := by
  obtain ⟨a2, c2, rfl⟩ := Sl.form_k (by decide) opc_len hv2.1
  refine fun_of mixed (args := [_, _, _]) Try.func6 Try.ntmps6 b6 r6 rfl ?_
  simp only [go_sem, ↓reduceIte, Nat.reduceEqDiff, Nat.reduceLeDiff, Nat.reduceAdd, Nat.reduceMul, Nat.reduceSub, Nat.reduceBEq, Nat.reduceGT, Nat.reduceLT, Int.reduceLE, Int.reduceLT, Int.reduceNeg, reduceCtorEq]
  refine FunI.by (F11 _) ?_
  rintro _ G1 ⟨rfl, x0⟩
  simp only [go_sem, ↓reduceIte, Nat.reduceEqDiff, Nat.reduceLeDiff, Nat.reduceAdd, Nat.reduceMul, Nat.reduceSub, Nat.reduceBEq, Nat.reduceGT, Nat.reduceLT, Int.reduceLE, Int.reduceLT, Int.reduceNeg, reduceCtorEq]
  rcases two_new k with hk1 | ⟨n1, rfl, hn1⟩ <;> rcases two_new k' with hk2 | ⟨n2, rfl, hn2⟩
  case' inl.inl =>
    have xg := x0
    refine FunI.by (hk1 _).1 ?_
    rintro _ _ ⟨rfl, rfl⟩
    simp only [go_sem, ↓reduceIte, Nat.reduceEqDiff, Nat.reduceLeDiff, Nat.reduceAdd, Nat.reduceMul, Nat.reduceSub, Nat.reduceBEq, Nat.reduceGT, Nat.reduceLT, Int.reduceLE, Int.reduceLT, Int.reduceNeg, reduceCtorEq]
    refine FunI.by (hk1 _).2 ?_
    rintro _ _ ⟨rfl, rfl⟩
    simp only [go_sem, ↓reduceIte, Nat.reduceEqDiff, Nat.reduceLeDiff, Nat.reduceAdd, Nat.reduceMul, Nat.reduceSub, Nat.reduceBEq, Nat.reduceGT, Nat.reduceLT, Int.reduceLE, Int.reduceLT, Int.reduceNeg, reduceCtorEq]
    obtain ⟨A1, hA1⟩ : ∃ A : Nat → Prop, A = fun _ => False := ⟨_, rfl⟩
    have s1 : Slot (.pointer none) (.pointer none) A1 0 G1 := ⟨fun b hb => by rw [hA1] at hb; exact hb.elim, .inl ⟨rfl, rfl⟩⟩
    have f1 : ∀ b, A1 b → H.size ≤ b := fun b hb => by rw [hA1] at hb; exact hb.elim
    clear hA1
    refine FunI.by (hk2 _).1 ?_
    rintro _ _ ⟨rfl, rfl⟩
    simp only [go_sem, ↓reduceIte, Nat.reduceEqDiff, Nat.reduceLeDiff, Nat.reduceAdd, Nat.reduceMul, Nat.reduceSub, Nat.reduceBEq, Nat.reduceGT, Nat.reduceLT, Int.reduceLE, Int.reduceLT, Int.reduceNeg, reduceCtorEq]
    refine FunI.by (hk2 _).2 ?_
    rintro _ _ ⟨rfl, rfl⟩
    simp only [go_sem, ↓reduceIte, Nat.reduceEqDiff, Nat.reduceLeDiff, Nat.reduceAdd, Nat.reduceMul, Nat.reduceSub, Nat.reduceBEq, Nat.reduceGT, Nat.reduceLT, Int.reduceLE, Int.reduceLT, Int.reduceNeg, reduceCtorEq]
    obtain ⟨A2, hA2⟩ : ∃ A : Nat → Prop, A = fun _ => False := ⟨_, rfl⟩
    have s2 : Slot (.pointer none) (.pointer none) A2 0 G1 := ⟨fun b hb => by rw [hA2] at hb; exact hb.elim, .inl ⟨rfl, rfl⟩⟩
    have f2 : ∀ b, A2 b → H.size ≤ b := fun b hb => by rw [hA2] at hb; exact hb.elim
    have D : ∀ b, A1 b → ¬ A2 b := fun b _ hb => by rw [hA2] at hb; exact hb
    clear hA2
    obtain ⟨Gz, eGz⟩ : ∃ G, G = G1 := ⟨_, rfl⟩
    rw [← eGz] at s1 s2 xg ⊢
    clear eGz
  case' inl.inr =>
    have xg := x0
    refine FunI.by (hk1 _).1 ?_
    rintro _ _ ⟨rfl, rfl⟩
    simp only [go_sem, ↓reduceIte, Nat.reduceEqDiff, Nat.reduceLeDiff, Nat.reduceAdd, Nat.reduceMul, Nat.reduceSub, Nat.reduceBEq, Nat.reduceGT, Nat.reduceLT, Int.reduceLE, Int.reduceLT, Int.reduceNeg, reduceCtorEq]
    refine FunI.by (hk1 _).2 ?_
    rintro _ _ ⟨rfl, rfl⟩
    simp only [go_sem, ↓reduceIte, Nat.reduceEqDiff, Nat.reduceLeDiff, Nat.reduceAdd, Nat.reduceMul, Nat.reduceSub, Nat.reduceBEq, Nat.reduceGT, Nat.reduceLT, Int.reduceLE, Int.reduceLT, Int.reduceNeg, reduceCtorEq]
    obtain ⟨A1, hA1⟩ : ∃ A : Nat → Prop, A = fun _ => False := ⟨_, rfl⟩
    have s1 : Slot (.pointer none) (.pointer none) A1 0 G1 := ⟨fun b hb => by rw [hA1] at hb; exact hb.elim, .inl ⟨rfl, rfl⟩⟩
    have f1 : ∀ b, A1 b → H.size ≤ b := fun b hb => by rw [hA1] at hb; exact hb.elim
    clear hA1
    refine FunI.by (mg_new n2 _ hn2) ?_
    rintro _ Gc ⟨F2, M2, rfl, mg2, hF2, y⟩
    simp only [go_sem, ↓reduceIte, Nat.reduceEqDiff, Nat.reduceLeDiff, Nat.reduceAdd, Nat.reduceMul, Nat.reduceSub, Nat.reduceBEq, Nat.reduceGT, Nat.reduceLT, Int.reduceLE, Int.reduceLT, Int.reduceNeg, reduceCtorEq]
    refine FunI.by (rg_new n2 _ hn2) ?_
    rintro _ Gd ⟨K2, R2, rfl, rg2, hK2, y'⟩
    simp only [go_sem, ↓reduceIte, Nat.reduceEqDiff, Nat.reduceLeDiff, Nat.reduceAdd, Nat.reduceMul, Nat.reduceSub, Nat.reduceBEq, Nat.reduceGT, Nat.reduceLT, Int.reduceLE, Int.reduceLT, Int.reduceNeg, reduceCtorEq]
    have s2 := slot_start rfl rfl (mg2.ext y') rg2 (fun b h1 h2 => by have := mg2.lt h1; have := hK2 b h2; omega)
    obtain ⟨A2, hA2⟩ : ∃ A : Nat → Prop, A = fun b => F2 b ∨ K2 b := ⟨_, rfl⟩
    rw [← hA2] at s2
    have f2' : ∀ b, A2 b → G1.size ≤ b := fun b hb => by
      rw [hA2] at hb
      rcases hb with hb | hb
      · exact hF2 b hb
      · exact Nat.le_trans y.size (hK2 b hb)
    have f2 : ∀ b, A2 b → H.size ≤ b := fun b hb => Nat.le_trans xg.size (f2' b hb)
    have D : ∀ b, A1 b → ¬ A2 b := fun b h1 h2 => by have := s1.1 b h1; have := f2' b h2; omega
    replace s1 := (s1.ext y).ext y'
    replace xg := (xg.trans (y.mono xg.size)).trans (y'.mono (Nat.le_trans xg.size y.size))
    clear y y' hA2 hF2 hK2 mg2 rg2
    obtain ⟨Gz, eGz⟩ : ∃ G, G = Gd := ⟨_, rfl⟩
    rw [← eGz] at s1 s2 xg ⊢
    clear eGz
  case' inr.inl =>
    have xg := x0
    refine FunI.by (mg_new n1 _ hn1) ?_
    rintro _ Ga ⟨F1, M1, rfl, mg1, hF1, y⟩
    simp only [go_sem, ↓reduceIte, Nat.reduceEqDiff, Nat.reduceLeDiff, Nat.reduceAdd, Nat.reduceMul, Nat.reduceSub, Nat.reduceBEq, Nat.reduceGT, Nat.reduceLT, Int.reduceLE, Int.reduceLT, Int.reduceNeg, reduceCtorEq]
    refine FunI.by (rg_new n1 _ hn1) ?_
    rintro _ Gb ⟨K1, R1, rfl, rg1, hK1, y'⟩
    simp only [go_sem, ↓reduceIte, Nat.reduceEqDiff, Nat.reduceLeDiff, Nat.reduceAdd, Nat.reduceMul, Nat.reduceSub, Nat.reduceBEq, Nat.reduceGT, Nat.reduceLT, Int.reduceLE, Int.reduceLT, Int.reduceNeg, reduceCtorEq]
    have s1 := slot_start rfl rfl (mg1.ext y') rg1 (fun b h1 h2 => by have := mg1.lt h1; have := hK1 b h2; omega)
    obtain ⟨A1, hA1⟩ : ∃ A : Nat → Prop, A = fun b => F1 b ∨ K1 b := ⟨_, rfl⟩
    rw [← hA1] at s1
    have f1' : ∀ b, A1 b → G1.size ≤ b := fun b hb => by
      rw [hA1] at hb
      rcases hb with hb | hb
      · exact hF1 b hb
      · exact Nat.le_trans y.size (hK1 b hb)
    have f1 : ∀ b, A1 b → H.size ≤ b := fun b hb => Nat.le_trans xg.size (f1' b hb)
    replace xg := (xg.trans (y.mono xg.size)).trans (y'.mono (Nat.le_trans xg.size y.size))
    clear y y' hA1 hF1 hK1 mg1 rg1
    refine FunI.by (hk2 _).1 ?_
    rintro _ _ ⟨rfl, rfl⟩
    simp only [go_sem, ↓reduceIte, Nat.reduceEqDiff, Nat.reduceLeDiff, Nat.reduceAdd, Nat.reduceMul, Nat.reduceSub, Nat.reduceBEq, Nat.reduceGT, Nat.reduceLT, Int.reduceLE, Int.reduceLT, Int.reduceNeg, reduceCtorEq]
    refine FunI.by (hk2 _).2 ?_
    rintro _ _ ⟨rfl, rfl⟩
    simp only [go_sem, ↓reduceIte, Nat.reduceEqDiff, Nat.reduceLeDiff, Nat.reduceAdd, Nat.reduceMul, Nat.reduceSub, Nat.reduceBEq, Nat.reduceGT, Nat.reduceLT, Int.reduceLE, Int.reduceLT, Int.reduceNeg, reduceCtorEq]
    obtain ⟨A2, hA2⟩ : ∃ A : Nat → Prop, A = fun _ => False := ⟨_, rfl⟩
    have s2 : Slot (.pointer none) (.pointer none) A2 0 Gb := ⟨fun b hb => by rw [hA2] at hb; exact hb.elim, .inl ⟨rfl, rfl⟩⟩
    have f2 : ∀ b, A2 b → H.size ≤ b := fun b hb => by rw [hA2] at hb; exact hb.elim
    have D : ∀ b, A1 b → ¬ A2 b := fun b _ hb => by rw [hA2] at hb; exact hb
    clear hA2
    obtain ⟨Gz, eGz⟩ : ∃ G, G = Gb := ⟨_, rfl⟩
    rw [← eGz] at s1 s2 xg ⊢
    clear eGz
  case' inr.inr =>
    have xg := x0
    refine FunI.by (mg_new n1 _ hn1) ?_
    rintro _ Ga ⟨F1, M1, rfl, mg1, hF1, y⟩
    simp only [go_sem, ↓reduceIte, Nat.reduceEqDiff, Nat.reduceLeDiff, Nat.reduceAdd, Nat.reduceMul, Nat.reduceSub, Nat.reduceBEq, Nat.reduceGT, Nat.reduceLT, Int.reduceLE, Int.reduceLT, Int.reduceNeg, reduceCtorEq]
    refine FunI.by (rg_new n1 _ hn1) ?_
    rintro _ Gb ⟨K1, R1, rfl, rg1, hK1, y'⟩
    simp only [go_sem, ↓reduceIte, Nat.reduceEqDiff, Nat.reduceLeDiff, Nat.reduceAdd, Nat.reduceMul, Nat.reduceSub, Nat.reduceBEq, Nat.reduceGT, Nat.reduceLT, Int.reduceLE, Int.reduceLT, Int.reduceNeg, reduceCtorEq]
    have s1 := slot_start rfl rfl (mg1.ext y') rg1 (fun b h1 h2 => by have := mg1.lt h1; have := hK1 b h2; omega)
    obtain ⟨A1, hA1⟩ : ∃ A : Nat → Prop, A = fun b => F1 b ∨ K1 b := ⟨_, rfl⟩
    rw [← hA1] at s1
    have f1' : ∀ b, A1 b → G1.size ≤ b := fun b hb => by
      rw [hA1] at hb
      rcases hb with hb | hb
      · exact hF1 b hb
      · exact Nat.le_trans y.size (hK1 b hb)
    have f1 : ∀ b, A1 b → H.size ≤ b := fun b hb => Nat.le_trans xg.size (f1' b hb)
    replace xg := (xg.trans (y.mono xg.size)).trans (y'.mono (Nat.le_trans xg.size y.size))
    clear y y' hA1 hF1 hK1 mg1 rg1
    refine FunI.by (mg_new n2 _ hn2) ?_
    rintro _ Gc ⟨F2, M2, rfl, mg2, hF2, y⟩
    simp only [go_sem, ↓reduceIte, Nat.reduceEqDiff, Nat.reduceLeDiff, Nat.reduceAdd, Nat.reduceMul, Nat.reduceSub, Nat.reduceBEq, Nat.reduceGT, Nat.reduceLT, Int.reduceLE, Int.reduceLT, Int.reduceNeg, reduceCtorEq]
    refine FunI.by (rg_new n2 _ hn2) ?_
    rintro _ Gd ⟨K2, R2, rfl, rg2, hK2, y'⟩
    simp only [go_sem, ↓reduceIte, Nat.reduceEqDiff, Nat.reduceLeDiff, Nat.reduceAdd, Nat.reduceMul, Nat.reduceSub, Nat.reduceBEq, Nat.reduceGT, Nat.reduceLT, Int.reduceLE, Int.reduceLT, Int.reduceNeg, reduceCtorEq]
    have s2 := slot_start rfl rfl (mg2.ext y') rg2 (fun b h1 h2 => by have := mg2.lt h1; have := hK2 b h2; omega)
    obtain ⟨A2, hA2⟩ : ∃ A : Nat → Prop, A = fun b => F2 b ∨ K2 b := ⟨_, rfl⟩
    rw [← hA2] at s2
    have f2' : ∀ b, A2 b → Gb.size ≤ b := fun b hb => by
      rw [hA2] at hb
      rcases hb with hb | hb
      · exact hF2 b hb
      · exact Nat.le_trans y.size (hK2 b hb)
    have f2 : ∀ b, A2 b → H.size ≤ b := fun b hb => Nat.le_trans xg.size (f2' b hb)
    have D : ∀ b, A1 b → ¬ A2 b := fun b h1 h2 => by have := s1.1 b h1; have := f2' b h2; omega
    replace s1 := (s1.ext y).ext y'
    replace xg := (xg.trans (y.mono xg.size)).trans (y'.mono (Nat.le_trans xg.size y.size))
    clear y y' hA2 hF2 hK2 mg2 rg2
    obtain ⟨Gz, eGz⟩ : ∃ G, G = Gd := ⟨_, rfl⟩
    rw [← eGz] at s1 s2 xg ⊢
    clear eGz
  all_goals clear x0
  all_goals
    refine LoopI.by mixed (fun ρ H' => ∃ (i : Nat) (m1 r1 m2 r2 : Value) (A1 A2 : Nat → Prop), ρ 2 = .slice a2 os.length c2 ∧ ρ 8 = m1 ∧ ρ 9 = r1 ∧ ρ 10 = m2 ∧ ρ 11 = r2 ∧ ρ 12 = .int .i64 i ∧ i ≤ os.length ∧ i ≤ 600 ∧ Slot m1 r1 A1 i H' ∧ Slot m2 r2 A2 i H' ∧ (∀ b, A1 b → ¬ A2 b) ∧ (∀ b, A1 b → H.size ≤ b) ∧ (∀ b, A2 b → H.size ≤ b) ∧ Ext H H') (fun ρ _ => os.length - (iof (ρ 12)).toNat) ?_ ?_
    · exact ⟨0, _, _, _, _, A1, A2, by simp only [go_sem, ↓reduceIte, Nat.reduceEqDiff, Nat.reduceLeDiff, Nat.reduceAdd, Nat.reduceMul, Nat.reduceSub, Nat.reduceBEq, Nat.reduceGT, Nat.reduceLT, Int.reduceLE, Int.reduceLT, Int.reduceNeg, reduceCtorEq], by simp only [go_sem, ↓reduceIte, Nat.reduceEqDiff, Nat.reduceLeDiff, Nat.reduceAdd, Nat.reduceMul, Nat.reduceSub, Nat.reduceBEq, Nat.reduceGT, Nat.reduceLT, Int.reduceLE, Int.reduceLT, Int.reduceNeg, reduceCtorEq], by simp only [go_sem, ↓reduceIte, Nat.reduceEqDiff, Nat.reduceLeDiff, Nat.reduceAdd, Nat.reduceMul, Nat.reduceSub, Nat.reduceBEq, Nat.reduceGT, Nat.reduceLT, Int.reduceLE, Int.reduceLT, Int.reduceNeg, reduceCtorEq], by simp only [go_sem, ↓reduceIte, Nat.reduceEqDiff, Nat.reduceLeDiff, Nat.reduceAdd, Nat.reduceMul, Nat.reduceSub, Nat.reduceBEq, Nat.reduceGT, Nat.reduceLT, Int.reduceLE, Int.reduceLT, Int.reduceNeg, reduceCtorEq], by simp only [go_sem, ↓reduceIte, Nat.reduceEqDiff, Nat.reduceLeDiff, Nat.reduceAdd, Nat.reduceMul, Nat.reduceSub, Nat.reduceBEq, Nat.reduceGT, Nat.reduceLT, Int.reduceLE, Int.reduceLT, Int.reduceNeg, reduceCtorEq], by simp only [go_sem, ↓reduceIte, Nat.reduceEqDiff, Nat.reduceLeDiff, Nat.reduceAdd, Nat.reduceMul, Nat.reduceSub, Nat.reduceBEq, Nat.reduceGT, Nat.reduceLT, Int.reduceLE, Int.reduceLT, Int.reduceNeg, reduceCtorEq]; rfl, by omega, by omega, s1, s2, D, f1, f2, xg⟩
    clear s1 s2 D f1 f2 xg
    rintro ρ H1 ⟨i, m1, r1, m2, r2, A1, A2, e2, e8, e9, e10, e11, e12, hi, hi6, s1, s2, D, f1, f2, xg⟩
    by_cases hil : i < os.length
    · have q1 : (i : Int) < os.length := by omega
      by_cases hi600 : i < 600
      · have q2 : (i : Int) < 600 := by omega
        have z0 : (0 : Int) ≤ i := by omega
        have w1 : IntKind.i64.wrap ((i : Int) + 1) = ((i + 1 : Nat) : Int) := by rw [w64_id (by omega) (by omega)]; omega
        obtain ⟨b, o, rfl⟩ := Sl.at hv2.1 (by omega)
        obtain ⟨x, hx⟩ : ∃ x, os[i]? = some x := ⟨os[i], List.getElem?_eq_getElem hil⟩
        have hp := hv2.2 x (List.mem_of_getElem? hx)
        obtain ⟨kind, xi, v, l, last, other⟩ := x
        replace hp : Prs H v l := hp
        obtain ⟨av, cv, rfl⟩ := prs_form hp
        have hel := fun j hj => Sl.elem opc_len (Sl.ext hv2.1 xg) hx (j := j) hj
        have g0 : hget H1 b (o + i * 5) = some (.int .i64 kind) := hel 0 (by omega)
        have g1 : hget H1 b (o + i * 5 + 1) = some (.int .i64 xi) := by rw [Nat.add_assoc]; exact hel 1 (by omega)
        have g2 : hget H1 b (o + i * 5 + 2) = some (.slice av l.length cv) := by rw [Nat.add_assoc]; exact hel 2 (by omega)
        have g3 : hget H1 b (o + i * 5 + 3) = some (.bool last) := by rw [Nat.add_assoc]; exact hel 3 (by omega)
        have g4 : hget H1 b (o + i * 5 + 4) = some (.bool other) := by rw [Nat.add_assoc]; exact hel 4 (by omega)
        clear hel
        have hpl : l ≠ [] → ∀ b, blk (.slice av l.length cv) = some b → b < H.size := fun hl b hb => by
          obtain ⟨b', o', rfl⟩ := prs_at hp (List.length_pos_iff.2 hl)
          cases hb
          exact prs_lt hp (List.length_pos_iff.2 hl)
        have hp1 := prs_ext hp xg
        clear hx
        cases other
        case' false =>
          rcases s1.2 with ⟨em, er⟩ | ⟨ss, F, G, ⟨M, R, em, er⟩, mg, rg, hd, hFA, hGA, hb⟩
          case' inl =>
            subst em er
            simp only [go_sem, ↓reduceIte, Nat.reduceEqDiff, Nat.reduceLeDiff, Nat.reduceAdd, Nat.reduceMul, Nat.reduceSub, Nat.reduceBEq, Nat.reduceGT, Nat.reduceLT, Int.reduceLE, Int.reduceLT, Int.reduceNeg, reduceCtorEq, c6_L0, e2, e8, e9, e10, e11, e12, q1, q2, z0, w1, g4, Option.isNone_none, Option.isNone_some, Int.toNat_natCast]
            refine ⟨Hold.mk ⟨i + 1, _, _, _, _, A1, A2, by simp only [go_sem, ↓reduceIte, Nat.reduceEqDiff, Nat.reduceLeDiff, Nat.reduceAdd, Nat.reduceMul, Nat.reduceSub, Nat.reduceBEq, Nat.reduceGT, Nat.reduceLT, Int.reduceLE, Int.reduceLT, Int.reduceNeg, reduceCtorEq, e2], by simp only [go_sem, ↓reduceIte, Nat.reduceEqDiff, Nat.reduceLeDiff, Nat.reduceAdd, Nat.reduceMul, Nat.reduceSub, Nat.reduceBEq, Nat.reduceGT, Nat.reduceLT, Int.reduceLE, Int.reduceLT, Int.reduceNeg, reduceCtorEq, e8], by simp only [go_sem, ↓reduceIte, Nat.reduceEqDiff, Nat.reduceLeDiff, Nat.reduceAdd, Nat.reduceMul, Nat.reduceSub, Nat.reduceBEq, Nat.reduceGT, Nat.reduceLT, Int.reduceLE, Int.reduceLT, Int.reduceNeg, reduceCtorEq, e9], by simp only [go_sem, ↓reduceIte, Nat.reduceEqDiff, Nat.reduceLeDiff, Nat.reduceAdd, Nat.reduceMul, Nat.reduceSub, Nat.reduceBEq, Nat.reduceGT, Nat.reduceLT, Int.reduceLE, Int.reduceLT, Int.reduceNeg, reduceCtorEq, e10], by simp only [go_sem, ↓reduceIte, Nat.reduceEqDiff, Nat.reduceLeDiff, Nat.reduceAdd, Nat.reduceMul, Nat.reduceSub, Nat.reduceBEq, Nat.reduceGT, Nat.reduceLT, Int.reduceLE, Int.reduceLT, Int.reduceNeg, reduceCtorEq, e11], by simp only [go_sem, ↓reduceIte, Nat.reduceEqDiff, Nat.reduceLeDiff, Nat.reduceAdd, Nat.reduceMul, Nat.reduceSub, Nat.reduceBEq, Nat.reduceGT, Nat.reduceLT, Int.reduceLE, Int.reduceLT, Int.reduceNeg, reduceCtorEq], by omega, by omega, s1.mono (Nat.le_succ _), s2.mono (Nat.le_succ _), D, f1, f2, xg⟩, by omega⟩
          case' inr =>
            subst em er
            by_cases hlen : 3000 < l.length
            case' pos =>
              have c1 : (3000 : Int) < l.length := by omega
              simp only [go_sem, ↓reduceIte, Nat.reduceEqDiff, Nat.reduceLeDiff, Nat.reduceAdd, Nat.reduceMul, Nat.reduceSub, Nat.reduceBEq, Nat.reduceGT, Nat.reduceLT, Int.reduceLE, Int.reduceLT, Int.reduceNeg, reduceCtorEq, c6_L0, e2, e8, e9, e10, e11, e12, q1, q2, z0, w1, g2, g4, c1, Option.isNone_none, Option.isNone_some, Int.toNat_natCast]
              refine ⟨Hold.mk ⟨i + 1, _, _, _, _, A1, A2, by simp only [go_sem, ↓reduceIte, Nat.reduceEqDiff, Nat.reduceLeDiff, Nat.reduceAdd, Nat.reduceMul, Nat.reduceSub, Nat.reduceBEq, Nat.reduceGT, Nat.reduceLT, Int.reduceLE, Int.reduceLT, Int.reduceNeg, reduceCtorEq, e2], by simp only [go_sem, ↓reduceIte, Nat.reduceEqDiff, Nat.reduceLeDiff, Nat.reduceAdd, Nat.reduceMul, Nat.reduceSub, Nat.reduceBEq, Nat.reduceGT, Nat.reduceLT, Int.reduceLE, Int.reduceLT, Int.reduceNeg, reduceCtorEq, e8], by simp only [go_sem, ↓reduceIte, Nat.reduceEqDiff, Nat.reduceLeDiff, Nat.reduceAdd, Nat.reduceMul, Nat.reduceSub, Nat.reduceBEq, Nat.reduceGT, Nat.reduceLT, Int.reduceLE, Int.reduceLT, Int.reduceNeg, reduceCtorEq, e9], by simp only [go_sem, ↓reduceIte, Nat.reduceEqDiff, Nat.reduceLeDiff, Nat.reduceAdd, Nat.reduceMul, Nat.reduceSub, Nat.reduceBEq, Nat.reduceGT, Nat.reduceLT, Int.reduceLE, Int.reduceLT, Int.reduceNeg, reduceCtorEq, e10], by simp only [go_sem, ↓reduceIte, Nat.reduceEqDiff, Nat.reduceLeDiff, Nat.reduceAdd, Nat.reduceMul, Nat.reduceSub, Nat.reduceBEq, Nat.reduceGT, Nat.reduceLT, Int.reduceLE, Int.reduceLT, Int.reduceNeg, reduceCtorEq, e11], by simp only [go_sem, ↓reduceIte, Nat.reduceEqDiff, Nat.reduceLeDiff, Nat.reduceAdd, Nat.reduceMul, Nat.reduceSub, Nat.reduceBEq, Nat.reduceGT, Nat.reduceLT, Int.reduceLE, Int.reduceLT, Int.reduceNeg, reduceCtorEq], by omega, by omega, s1.mono (Nat.le_succ _), s2.mono (Nat.le_succ _), D, f1, f2, xg⟩, by omega⟩
            case' neg =>
              have c1 : ¬ (3000 : Int) < l.length := by omega
              simp only [go_sem, ↓reduceIte, Nat.reduceEqDiff, Nat.reduceLeDiff, Nat.reduceAdd, Nat.reduceMul, Nat.reduceSub, Nat.reduceBEq, Nat.reduceGT, Nat.reduceLT, Int.reduceLE, Int.reduceLT, Int.reduceNeg, reduceCtorEq, c6_L0, e2, e8, e9, e10, e11, e12, q1, q2, z0, w1, g0, g1, g2, g3, g4, c1, Option.isNone_none, Option.isNone_some, Int.toNat_natCast, Option.bind_some]
              refine FunI.by (F28 mg rg hd kind xi hp1 (by omega) (fun hl b hb => by
                have := hpl hl b hb
                exact ⟨fun h => by have := f1 b (hFA b h); omega, fun h => by have := f1 b (hGA b h); omega⟩) last false (fun j hj => by have := hb j hj; have : i * 3000 ≤ 600 * 3000 := Nat.mul_le_mul_right _ hi6; omega)) ?_
              rintro _ H2 ⟨rfl, ss', F', G', mg', rg', hd', hsl, hsb, ch⟩
              obtain ⟨A', hA'⟩ : ∃ A' : Nat → Prop, A' = fun b => F' b ∨ G' b := ⟨_, rfl⟩
              have chA : Ch A1 A' H1 H2 := ⟨ch.size, fun b hb => by
                rw [hA'] at hb
                rcases ch.old b hb with h | h
                · rcases h with h | h
                  · exact .inl (hFA b h)
                  · exact .inl (hGA b h)
                · exact .inr h, fun b hb hn => ch.get b hb fun h => hn (h.elim (hFA b) (hGA b))⟩
              obtain ⟨s2', D'⟩ := s2.keep chA (fun b h2 h1 => D b h1 h2)
              have hD : ∀ b, A' b → ¬ A2 b := fun b h1 h2 => D' b h2 h1
              have f1' : ∀ b, A' b → H.size ≤ b := chA.ge f1 xg.size
              have s1' : Slot (.pointer (some ⟨M, 0, none⟩)) (.pointer (some ⟨R, 0, none⟩)) A' (i + 1) H2 := ⟨fun b hb => by
                rw [hA'] at hb
                rcases hb with hb | hb
                · exact mg'.lt hb
                · exact rg'.lt hb, .inr ⟨ss', F', G', ⟨M, R, rfl, rfl⟩, mg', rg', hd', fun b hb => by rw [hA']; exact .inl hb, fun b hb => by rw [hA']; exact .inr hb, fun j hj => by rw [hsl] at hj; have := hsb j hj; have := hb j hj; rw [Nat.add_mul]; omega⟩⟩
              have xg' := xg.trans (chA.upto f1 xg.size)
              simp only [go_sem, ↓reduceIte, Nat.reduceEqDiff, Nat.reduceLeDiff, Nat.reduceAdd, Nat.reduceMul, Nat.reduceSub, Nat.reduceBEq, Nat.reduceGT, Nat.reduceLT, Int.reduceLE, Int.reduceLT, Int.reduceNeg, reduceCtorEq, e2, e8, e9, e10, e11, e12, w1]
              refine ⟨Hold.mk ⟨i + 1, _, _, _, _, A', A2, by simp only [go_sem, ↓reduceIte, Nat.reduceEqDiff, Nat.reduceLeDiff, Nat.reduceAdd, Nat.reduceMul, Nat.reduceSub, Nat.reduceBEq, Nat.reduceGT, Nat.reduceLT, Int.reduceLE, Int.reduceLT, Int.reduceNeg, reduceCtorEq, e2], by simp only [go_sem, ↓reduceIte, Nat.reduceEqDiff, Nat.reduceLeDiff, Nat.reduceAdd, Nat.reduceMul, Nat.reduceSub, Nat.reduceBEq, Nat.reduceGT, Nat.reduceLT, Int.reduceLE, Int.reduceLT, Int.reduceNeg, reduceCtorEq, e8], by simp only [go_sem, ↓reduceIte, Nat.reduceEqDiff, Nat.reduceLeDiff, Nat.reduceAdd, Nat.reduceMul, Nat.reduceSub, Nat.reduceBEq, Nat.reduceGT, Nat.reduceLT, Int.reduceLE, Int.reduceLT, Int.reduceNeg, reduceCtorEq, e9], by simp only [go_sem, ↓reduceIte, Nat.reduceEqDiff, Nat.reduceLeDiff, Nat.reduceAdd, Nat.reduceMul, Nat.reduceSub, Nat.reduceBEq, Nat.reduceGT, Nat.reduceLT, Int.reduceLE, Int.reduceLT, Int.reduceNeg, reduceCtorEq, e10], by simp only [go_sem, ↓reduceIte, Nat.reduceEqDiff, Nat.reduceLeDiff, Nat.reduceAdd, Nat.reduceMul, Nat.reduceSub, Nat.reduceBEq, Nat.reduceGT, Nat.reduceLT, Int.reduceLE, Int.reduceLT, Int.reduceNeg, reduceCtorEq, e11], by simp only [go_sem, ↓reduceIte, Nat.reduceEqDiff, Nat.reduceLeDiff, Nat.reduceAdd, Nat.reduceMul, Nat.reduceSub, Nat.reduceBEq, Nat.reduceGT, Nat.reduceLT, Int.reduceLE, Int.reduceLT, Int.reduceNeg, reduceCtorEq], by omega, by omega, s1', (s2'.mono (Nat.le_succ _)), hD, f1', f2, xg'⟩, by omega⟩
        case' true =>
          rcases s2.2 with ⟨em, er⟩ | ⟨ss, F, G, ⟨M, R, em, er⟩, mg, rg, hd, hFA, hGA, hb⟩
          case' inl =>
            subst em er
            simp only [go_sem, ↓reduceIte, Nat.reduceEqDiff, Nat.reduceLeDiff, Nat.reduceAdd, Nat.reduceMul, Nat.reduceSub, Nat.reduceBEq, Nat.reduceGT, Nat.reduceLT, Int.reduceLE, Int.reduceLT, Int.reduceNeg, reduceCtorEq, c6_L0, e2, e8, e9, e10, e11, e12, q1, q2, z0, w1, g4, Option.isNone_none, Option.isNone_some, Int.toNat_natCast]
            refine ⟨Hold.mk ⟨i + 1, _, _, _, _, A1, A2, by simp only [go_sem, ↓reduceIte, Nat.reduceEqDiff, Nat.reduceLeDiff, Nat.reduceAdd, Nat.reduceMul, Nat.reduceSub, Nat.reduceBEq, Nat.reduceGT, Nat.reduceLT, Int.reduceLE, Int.reduceLT, Int.reduceNeg, reduceCtorEq, e2], by simp only [go_sem, ↓reduceIte, Nat.reduceEqDiff, Nat.reduceLeDiff, Nat.reduceAdd, Nat.reduceMul, Nat.reduceSub, Nat.reduceBEq, Nat.reduceGT, Nat.reduceLT, Int.reduceLE, Int.reduceLT, Int.reduceNeg, reduceCtorEq, e8], by simp only [go_sem, ↓reduceIte, Nat.reduceEqDiff, Nat.reduceLeDiff, Nat.reduceAdd, Nat.reduceMul, Nat.reduceSub, Nat.reduceBEq, Nat.reduceGT, Nat.reduceLT, Int.reduceLE, Int.reduceLT, Int.reduceNeg, reduceCtorEq, e9], by simp only [go_sem, ↓reduceIte, Nat.reduceEqDiff, Nat.reduceLeDiff, Nat.reduceAdd, Nat.reduceMul, Nat.reduceSub, Nat.reduceBEq, Nat.reduceGT, Nat.reduceLT, Int.reduceLE, Int.reduceLT, Int.reduceNeg, reduceCtorEq, e10], by simp only [go_sem, ↓reduceIte, Nat.reduceEqDiff, Nat.reduceLeDiff, Nat.reduceAdd, Nat.reduceMul, Nat.reduceSub, Nat.reduceBEq, Nat.reduceGT, Nat.reduceLT, Int.reduceLE, Int.reduceLT, Int.reduceNeg, reduceCtorEq, e11], by simp only [go_sem, ↓reduceIte, Nat.reduceEqDiff, Nat.reduceLeDiff, Nat.reduceAdd, Nat.reduceMul, Nat.reduceSub, Nat.reduceBEq, Nat.reduceGT, Nat.reduceLT, Int.reduceLE, Int.reduceLT, Int.reduceNeg, reduceCtorEq], by omega, by omega, s1.mono (Nat.le_succ _), s2.mono (Nat.le_succ _), D, f1, f2, xg⟩, by omega⟩
          case' inr =>
            subst em er
            by_cases hlen : 3000 < l.length
            case' pos =>
              have c1 : (3000 : Int) < l.length := by omega
              simp only [go_sem, ↓reduceIte, Nat.reduceEqDiff, Nat.reduceLeDiff, Nat.reduceAdd, Nat.reduceMul, Nat.reduceSub, Nat.reduceBEq, Nat.reduceGT, Nat.reduceLT, Int.reduceLE, Int.reduceLT, Int.reduceNeg, reduceCtorEq, c6_L0, e2, e8, e9, e10, e11, e12, q1, q2, z0, w1, g2, g4, c1, Option.isNone_none, Option.isNone_some, Int.toNat_natCast]
              refine ⟨Hold.mk ⟨i + 1, _, _, _, _, A1, A2, by simp only [go_sem, ↓reduceIte, Nat.reduceEqDiff, Nat.reduceLeDiff, Nat.reduceAdd, Nat.reduceMul, Nat.reduceSub, Nat.reduceBEq, Nat.reduceGT, Nat.reduceLT, Int.reduceLE, Int.reduceLT, Int.reduceNeg, reduceCtorEq, e2], by simp only [go_sem, ↓reduceIte, Nat.reduceEqDiff, Nat.reduceLeDiff, Nat.reduceAdd, Nat.reduceMul, Nat.reduceSub, Nat.reduceBEq, Nat.reduceGT, Nat.reduceLT, Int.reduceLE, Int.reduceLT, Int.reduceNeg, reduceCtorEq, e8], by simp only [go_sem, ↓reduceIte, Nat.reduceEqDiff, Nat.reduceLeDiff, Nat.reduceAdd, Nat.reduceMul, Nat.reduceSub, Nat.reduceBEq, Nat.reduceGT, Nat.reduceLT, Int.reduceLE, Int.reduceLT, Int.reduceNeg, reduceCtorEq, e9], by simp only [go_sem, ↓reduceIte, Nat.reduceEqDiff, Nat.reduceLeDiff, Nat.reduceAdd, Nat.reduceMul, Nat.reduceSub, Nat.reduceBEq, Nat.reduceGT, Nat.reduceLT, Int.reduceLE, Int.reduceLT, Int.reduceNeg, reduceCtorEq, e10], by simp only [go_sem, ↓reduceIte, Nat.reduceEqDiff, Nat.reduceLeDiff, Nat.reduceAdd, Nat.reduceMul, Nat.reduceSub, Nat.reduceBEq, Nat.reduceGT, Nat.reduceLT, Int.reduceLE, Int.reduceLT, Int.reduceNeg, reduceCtorEq, e11], by simp only [go_sem, ↓reduceIte, Nat.reduceEqDiff, Nat.reduceLeDiff, Nat.reduceAdd, Nat.reduceMul, Nat.reduceSub, Nat.reduceBEq, Nat.reduceGT, Nat.reduceLT, Int.reduceLE, Int.reduceLT, Int.reduceNeg, reduceCtorEq], by omega, by omega, s1.mono (Nat.le_succ _), s2.mono (Nat.le_succ _), D, f1, f2, xg⟩, by omega⟩
            case' neg =>
              have c1 : ¬ (3000 : Int) < l.length := by omega
              simp only [go_sem, ↓reduceIte, Nat.reduceEqDiff, Nat.reduceLeDiff, Nat.reduceAdd, Nat.reduceMul, Nat.reduceSub, Nat.reduceBEq, Nat.reduceGT, Nat.reduceLT, Int.reduceLE, Int.reduceLT, Int.reduceNeg, reduceCtorEq, c6_L0, e2, e8, e9, e10, e11, e12, q1, q2, z0, w1, g0, g1, g2, g3, g4, c1, Option.isNone_none, Option.isNone_some, Int.toNat_natCast, Option.bind_some]
              refine FunI.by (F28 mg rg hd kind xi hp1 (by omega) (fun hl b hb => by
                have := hpl hl b hb
                exact ⟨fun h => by have := f2 b (hFA b h); omega, fun h => by have := f2 b (hGA b h); omega⟩) last true (fun j hj => by have := hb j hj; have : i * 3000 ≤ 600 * 3000 := Nat.mul_le_mul_right _ hi6; omega)) ?_
              rintro _ H2 ⟨rfl, ss', F', G', mg', rg', hd', hsl, hsb, ch⟩
              obtain ⟨A', hA'⟩ : ∃ A' : Nat → Prop, A' = fun b => F' b ∨ G' b := ⟨_, rfl⟩
              have chA : Ch A2 A' H1 H2 := ⟨ch.size, fun b hb => by
                rw [hA'] at hb
                rcases ch.old b hb with h | h
                · rcases h with h | h
                  · exact .inl (hFA b h)
                  · exact .inl (hGA b h)
                · exact .inr h, fun b hb hn => ch.get b hb fun h => hn (h.elim (hFA b) (hGA b))⟩
              obtain ⟨s1', hD⟩ := s1.keep chA D
              have f2' : ∀ b, A' b → H.size ≤ b := chA.ge f2 xg.size
              have s2' : Slot (.pointer (some ⟨M, 0, none⟩)) (.pointer (some ⟨R, 0, none⟩)) A' (i + 1) H2 := ⟨fun b hb => by
                rw [hA'] at hb
                rcases hb with hb | hb
                · exact mg'.lt hb
                · exact rg'.lt hb, .inr ⟨ss', F', G', ⟨M, R, rfl, rfl⟩, mg', rg', hd', fun b hb => by rw [hA']; exact .inl hb, fun b hb => by rw [hA']; exact .inr hb, fun j hj => by rw [hsl] at hj; have := hsb j hj; have := hb j hj; rw [Nat.add_mul]; omega⟩⟩
              have xg' := xg.trans (chA.upto f2 xg.size)
              simp only [go_sem, ↓reduceIte, Nat.reduceEqDiff, Nat.reduceLeDiff, Nat.reduceAdd, Nat.reduceMul, Nat.reduceSub, Nat.reduceBEq, Nat.reduceGT, Nat.reduceLT, Int.reduceLE, Int.reduceLT, Int.reduceNeg, reduceCtorEq, e2, e8, e9, e10, e11, e12, w1]
              refine ⟨Hold.mk ⟨i + 1, _, _, _, _, A1, A', by simp only [go_sem, ↓reduceIte, Nat.reduceEqDiff, Nat.reduceLeDiff, Nat.reduceAdd, Nat.reduceMul, Nat.reduceSub, Nat.reduceBEq, Nat.reduceGT, Nat.reduceLT, Int.reduceLE, Int.reduceLT, Int.reduceNeg, reduceCtorEq, e2], by simp only [go_sem, ↓reduceIte, Nat.reduceEqDiff, Nat.reduceLeDiff, Nat.reduceAdd, Nat.reduceMul, Nat.reduceSub, Nat.reduceBEq, Nat.reduceGT, Nat.reduceLT, Int.reduceLE, Int.reduceLT, Int.reduceNeg, reduceCtorEq, e8], by simp only [go_sem, ↓reduceIte, Nat.reduceEqDiff, Nat.reduceLeDiff, Nat.reduceAdd, Nat.reduceMul, Nat.reduceSub, Nat.reduceBEq, Nat.reduceGT, Nat.reduceLT, Int.reduceLE, Int.reduceLT, Int.reduceNeg, reduceCtorEq, e9], by simp only [go_sem, ↓reduceIte, Nat.reduceEqDiff, Nat.reduceLeDiff, Nat.reduceAdd, Nat.reduceMul, Nat.reduceSub, Nat.reduceBEq, Nat.reduceGT, Nat.reduceLT, Int.reduceLE, Int.reduceLT, Int.reduceNeg, reduceCtorEq, e10], by simp only [go_sem, ↓reduceIte, Nat.reduceEqDiff, Nat.reduceLeDiff, Nat.reduceAdd, Nat.reduceMul, Nat.reduceSub, Nat.reduceBEq, Nat.reduceGT, Nat.reduceLT, Int.reduceLE, Int.reduceLT, Int.reduceNeg, reduceCtorEq, e11], by simp only [go_sem, ↓reduceIte, Nat.reduceEqDiff, Nat.reduceLeDiff, Nat.reduceAdd, Nat.reduceMul, Nat.reduceSub, Nat.reduceBEq, Nat.reduceGT, Nat.reduceLT, Int.reduceLE, Int.reduceLT, Int.reduceNeg, reduceCtorEq], by omega, by omega, (s1'.mono (Nat.le_succ _)), s2', hD, f1, f2', xg'⟩, by omega⟩
      · have q2 : ¬ (i : Int) < 600 := by omega
        simp only [go_sem, ↓reduceIte, Nat.reduceEqDiff, Nat.reduceLeDiff, Nat.reduceAdd, Nat.reduceMul, Nat.reduceSub, Nat.reduceBEq, Nat.reduceGT, Nat.reduceLT, Int.reduceLE, Int.reduceLT, Int.reduceNeg, reduceCtorEq, c6_L0, e2, e8, e9, e10, e11, e12, q1, q2]
        exact xg
    · have q1 : ¬ (i : Int) < os.length := by omega
      simp only [go_sem, ↓reduceIte, Nat.reduceEqDiff, Nat.reduceLeDiff, Nat.reduceAdd, Nat.reduceMul, Nat.reduceSub, Nat.reduceBEq, Nat.reduceGT, Nat.reduceLT, Int.reduceLE, Int.reduceLT, Int.reduceNeg, reduceCtorEq, c6_L0, e2, e8, e9, e10, e11, e12, q1]
      exact xg
end Go.Proofs.Ytcgejfmbhpmjfaa
