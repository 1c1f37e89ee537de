/- The law RunsOne, over heaps. -/
import Derived.Test.YtcgejfmbhpmjfaaVLenc
import Derived.Test.YtcgejfmbhpmjfaaVSrcs
import Derived.Test.YtcgejfmbhpmjfaaVOneS
set_option linter.unusedSimpArgs false
set_option linter.unusedVariables false
set_option maxRecDepth 20000
namespace Go.Proofs.Ytcgejfmbhpmjfaa
open Go Go.V
-- 9: pith/pithlaw11.RunsOne
-- 11: pith/pithlaw11.first
-- 34: pith/pithlaw11.sources
-- 36: pith/pithlaw11.told
-- 23: pith/pithlaw11.num
-- 18: pith/pithref.Pairs
-- 15: pith/pithref.SamePairs
-- 16: pith/runs.Sort
-- 26: pith/runs.New
-- 35: (*pith/runs.Merger).Give
-- 37: (*pith/runs.Merger).Wants
-- 38: (*pith/runs.Merger).Left
-- 3: int
-- 4: bool
-- 63: []int
-- 24: pith/api.Pair
-- 22: []api.Pair
-- 65: pithlaw11.Piece
/-- Pieces: a source's number, and how many. -/
def Pcs (H : Heap) (v : Value) (ps : List Pr) : Prop := Sl H 65 2 v (cp ps)
theorem flat_le {qs : List (List Pr)} {n : Nat} (h : ∀ l ∈ qs, l.length ≤ n) : qs.flatten.length ≤ qs.length * n := by
  induction qs with
  | nil => simp
  | cons a l ih =>
    rw [List.flatten_cons, List.length_append, List.length_cons, Nat.add_mul]
    have := h a List.mem_cons_self
    have := ih fun x hx => h x (List.mem_cons_of_mem _ hx)
    omega
theorem OI.lens {qs : List (List Pr)} {ats : List Nat} {ens : List Bool} {ss : List Src} {out : List Pr} {c : Nat → Nat} (h : OI qs ats ens ss out c) (hl : ∀ k, k < qs.length → (qs.getD k []).length ≤ 3000) : ∀ j, j < ss.length → (sg ss j).l.length ≤ 3000 := fun j hj => by
  rw [h.l1] at hj
  rw [h.lst j hj, td_len (h.ca j hj).2]
  have := (h.ca j hj).2
  have := hl j hj
  omega
theorem prs_cut {H : Heap} {a : Option Addr} {len cap n : Nat} {ps : List Pr} (h : Prs H (.slice a len cap) ps) (hn : n ≤ len) : Prs H (.slice a n cap) (ps.take n) := by
  obtain ⟨_, _, _, he, hc, hl, hd⟩ := h
  cases he
  rw [cp_len] at hl
  refine ⟨a, n, cap, rfl, by omega, by rw [cp_len, List.length_take]; omega, ?_⟩
  by_cases h0 : n = 0
  · exact .inl h0
  · rcases hd with hd | ⟨b, o, c, t, fr, rfl, hb, hg⟩
    · omega
    · refine .inr ⟨b, o, c, t, fr, rfl, hb, fun i hi => ?_⟩
      rw [hg i (by omega), ← cp_take, List.getElem?_take, if_pos hi]
theorem opt_id (c : Nat) (a : Option Addr) : (if c = 0 then a else Option.map (fun x => x) a) = a := by
  split
  · rfl
  · cases a <;> rfl
set_option maxHeartbeats 3200000 in
theorem F9 (v0 : Value) (pss : List (List Pr)) (v1 : Value) (ps : List Pr) (H : Heap) (hv0 : PrsL H v0 pss) (hv1 : Pcs H v1 ps) :
    Fun Try.prog 9 #[v0, v1] H (fun r H' => r = .bool true ∧ Ext H H') := by
  obtain ⟨a0, c0, rfl⟩ := hv0.form
  obtain ⟨a1, c1, rfl⟩ : ∃ a cap, v1 = .slice a ps.length cap := by
    obtain ⟨a, len, cap, rfl⟩ := Sl.form hv1
    have := Sl.length hv1
    rw [cp_len] at this
    exact ⟨a, cap, by rw [show ps.length = len by omega]⟩
  refine fun_of mixed (args := [_, _]) Try.func9 Try.ntmps9 b9 r9 rfl ?_
  simp only [go_sem, ↓reduceIte, Nat.reduceEqDiff, Nat.reduceLeDiff, Nat.reduceAdd, Nat.reduceMul, Nat.reduceSub, Nat.reduceBEq, Nat.reduceGT, Nat.reduceLT, Int.reduceLE, Int.reduceLT, Int.reduceNeg, reduceCtorEq]
  refine FunI.by (F11 _) ?_
  rintro _ G1 ⟨rfl, x0⟩
  simp only [go_sem, ↓reduceIte, Nat.reduceEqDiff, Nat.reduceLeDiff, Nat.reduceAdd, Nat.reduceMul, Nat.reduceSub, Nat.reduceBEq, Nat.reduceGT, Nat.reduceLT, Int.reduceLE, Int.reduceLT, Int.reduceNeg, reduceCtorEq]
  refine FunI.by (F34 _ pss _ (hv0.ext x0)) ?_
  rintro vs G2 ⟨os, y⟩
  replace x0 := step x0 y (Nat.le_refl _)
  clear y
  obtain ⟨qs, hqs⟩ : ∃ qs, qs = srcs pss := ⟨_, rfl⟩
  obtain ⟨hq64, hqp⟩ := srcs_prop (pss := pss)
  rw [← hqs] at os hq64 hqp
  obtain ⟨aS, cS, rfl⟩ := os.form
  simp only [go_sem, ↓reduceIte, Nat.reduceEqDiff, Nat.reduceLeDiff, Nat.reduceAdd, Nat.reduceMul, Nat.reduceSub, Nat.reduceBEq, Nat.reduceGT, Nat.reduceLT, Int.reduceLE, Int.reduceLT, Int.reduceNeg, reduceCtorEq]
  refine FunI.by (mg_new qs.length _ hq64) ?_
  rintro _ G3 ⟨F0, M, rfl, mg, f0, xg⟩
  have hqk : ∀ k, k < qs.length → Up (qs.getD k []) ∧ (qs.getD k []).length ≤ 3000 := fun k hk => hqp _ (by rw [List.getD_eq_getElem?_getD, List.getElem?_eq_getElem hk]; exact List.getElem_mem hk)
  have hfl := flat_le fun l hl => (hqp l hl).2
  simp only [go_sem, ↓reduceIte, Nat.reduceEqDiff, Nat.reduceLeDiff, Nat.reduceAdd, Nat.reduceMul, Nat.reduceSub, Nat.reduceBEq, Nat.reduceGT, Nat.reduceLT, Int.reduceLE, Int.reduceLT, Int.reduceNeg, reduceCtorEq]
  refine ⟨by omega, by omega, by omega, by omega, by omega, by omega, by omega, by omega, ?_⟩
  have oa := Own.made (H := G3) (B := 0) (e := 3) (sz := 1) (l := qs.length) (c := qs.length) (z := .int .i64 0) (Nat.zero_le _) (Nat.le_refl _) (by omega)
  rw [zrow_one rfl, Nat.mul_one, List.take_of_length_le (by simp), show List.replicate qs.length (Value.int .i64 0) = hpI (List.replicate qs.length 0) by simp [hpI]] at oa
  have lF : ∀ b, F0 b → b < G3.size := fun b hb => mg.lt hb
  have sz3 : G2.size ≤ G3.size := xg.size
  obtain ⟨G4, hG4⟩ : ∃ G, G = Array.push G3 (Obj.cells (zrow (.int .i64 0) qs.length) 3) := ⟨_, rfl⟩
  have y : Ext G3 G4 := by rw [hG4]; exact Ext.push _
  have sz4 : G4.size = G3.size + 1 := by rw [hG4]; simp
  rw [← hG4] at oa ⊢
  clear hG4
  replace mg := mg.ext y
  replace xg := xg.trans (y.mono xg.size)
  have oe := Own.made (H := G4) (B := 0) (e := 4) (sz := 1) (l := qs.length) (c := qs.length) (z := .bool false) (Nat.zero_le _) (Nat.le_refl _) (by omega)
  rw [zrow_one rfl, Nat.mul_one, List.take_of_length_le (by simp), show List.replicate qs.length (Value.bool false) = (List.replicate qs.length false).map .bool by simp] at oe
  obtain ⟨G5, hG5⟩ : ∃ G, G = Array.push G4 (Obj.cells (zrow (.bool false) qs.length) 4) := ⟨_, rfl⟩
  have y2 : Ext G4 G5 := by rw [hG5]; exact Ext.push _
  have sz5 : G5.size = G3.size + 2 := by rw [hG5]; simp; omega
  rw [← hG5] at oe ⊢
  clear hG5
  replace mg := mg.ext y2
  replace oa := oa.ext y2
  replace xg := xg.trans (y2.mono xg.size)
  clear y y2
  obtain ⟨ga, hga⟩ : ∃ ga, ga = G3.size := ⟨_, rfl⟩
  obtain ⟨ge, hge⟩ : ∃ ge, ge = G4.size := ⟨_, rfl⟩
  rw [← hga] at oa ⊢
  rw [← hge] at oe ⊢
  refine LoopI.by mixed (fun ρ H' => ∃ (i : Nat) (w : Value), ρ 1 = .slice a1 ps.length c1 ∧ ρ 6 = .slice aS qs.length cS ∧ ρ 7 = .pointer (some ⟨M, 0, none⟩) ∧ ρ 8 = .slice (some ⟨ga, 0, none⟩) qs.length qs.length ∧ ρ 9 = .slice (some ⟨ge, 0, none⟩) qs.length qs.length ∧ ρ 10 = w ∧ ρ 11 = .int .i64 i ∧ i ≤ qs.length ∧ Own H' G5.size 24 2 w (cp (qs.take i).flatten) ∧ Ext G5 H') (fun ρ _ => qs.length - (iof (ρ 11)).toNat) ?_ ?_
  · exact ⟨0, _, by simp only [go_sem, ↓reduceIte, Nat.reduceEqDiff, Nat.reduceLeDiff, Nat.reduceAdd, Nat.reduceMul, Nat.reduceSub, Nat.reduceBEq, Nat.reduceGT, Nat.reduceLT, Int.reduceLE, Int.reduceLT, Int.reduceNeg, reduceCtorEq], by simp only [go_sem, ↓reduceIte, Nat.reduceEqDiff, Nat.reduceLeDiff, Nat.reduceAdd, Nat.reduceMul, Nat.reduceSub, Nat.reduceBEq, Nat.reduceGT, Nat.reduceLT, Int.reduceLE, Int.reduceLT, Int.reduceNeg, reduceCtorEq], by simp only [go_sem, ↓reduceIte, Nat.reduceEqDiff, Nat.reduceLeDiff, Nat.reduceAdd, Nat.reduceMul, Nat.reduceSub, Nat.reduceBEq, Nat.reduceGT, Nat.reduceLT, Int.reduceLE, Int.reduceLT, Int.reduceNeg, reduceCtorEq], by simp only [go_sem, ↓reduceIte, Nat.reduceEqDiff, Nat.reduceLeDiff, Nat.reduceAdd, Nat.reduceMul, Nat.reduceSub, Nat.reduceBEq, Nat.reduceGT, Nat.reduceLT, Int.reduceLE, Int.reduceLT, Int.reduceNeg, reduceCtorEq], by simp only [go_sem, ↓reduceIte, Nat.reduceEqDiff, Nat.reduceLeDiff, Nat.reduceAdd, Nat.reduceMul, Nat.reduceSub, Nat.reduceBEq, Nat.reduceGT, Nat.reduceLT, Int.reduceLE, Int.reduceLT, Int.reduceNeg, reduceCtorEq], rfl, by simp only [go_sem, ↓reduceIte, Nat.reduceEqDiff, Nat.reduceLeDiff, Nat.reduceAdd, Nat.reduceMul, Nat.reduceSub, Nat.reduceBEq, Nat.reduceGT, Nat.reduceLT, Int.reduceLE, Int.reduceLT, Int.reduceNeg, reduceCtorEq]; rfl, by omega, by simp only [go_sem, ↓reduceIte, Nat.reduceEqDiff, Nat.reduceLeDiff, Nat.reduceAdd, Nat.reduceMul, Nat.reduceSub, Nat.reduceBEq, Nat.reduceGT, Nat.reduceLT, Int.reduceLE, Int.reduceLT, Int.reduceNeg, reduceCtorEq]; exact Own.nil, Upto.refl _ _⟩
  rintro ρ H1 ⟨i, w, e1, e6, e7, e8, e9, e10, e11, hi, ow, x1⟩
  have hfi : ∀ i, i ≤ qs.length → (qs.take i).flatten.length ≤ qs.length * 3000 := fun i hi => by
    have := flat_le (qs := qs.take i) (n := 3000) fun l hl => (hqp l (List.mem_of_mem_take hl)).2
    rw [List.length_take, Nat.min_eq_left hi] at this
    exact Nat.le_trans this (Nat.mul_le_mul_right _ hi)
  have h64 : qs.length * 3000 ≤ 64 * 3000 := Nat.mul_le_mul_right _ hq64
  by_cases hil : i < qs.length
  · have i1 : (i : Int) < qs.length := by omega
    have z0 : (0 : Int) ≤ i := by omega
    have w1 : IntKind.i64.wrap ((i : Int) + 1) = ((i + 1 : Nat) : Int) := by rw [w64_id (by omega) (by omega)]; omega
    obtain ⟨b, o, rfl⟩ := os.at (by omega)
    obtain ⟨aq, cq, g1, hp⟩ := (os.ext (xg.trans (x1.mono xg.size))).get hil
    simp only [go_sem, ↓reduceIte, Nat.reduceEqDiff, Nat.reduceLeDiff, Nat.reduceAdd, Nat.reduceMul, Nat.reduceSub, Nat.reduceBEq, Nat.reduceGT, Nat.reduceLT, Int.reduceLE, Int.reduceLT, Int.reduceNeg, reduceCtorEq, c9_L0, e1, e6, e7, e8, e9, e10, e11, i1, z0, g1, Int.toNat_natCast]
    have hf1 := hfi i hi
    have hq3 := (hqk i hil).2
    refine RunI.by (append_own ty22 ty24 rfl rfl rfl (by decide) ow hp (cp_one _) (n := (qs.take i).flatten.length + (qs.getD i []).length) (by rw [cp_len, cp_len]; show _ = ((qs.take i).flatten.length + (qs.getD i []).length) * 2; omega) (by show ((qs.take i).flatten.length + (qs.getD i []).length) * 16 ≤ _; omega) (by omega) x1.size) ?_
    rintro w2 H2 ⟨ow2, y, _, _⟩
    rw [← cp_app] at ow2
    have yu := y.upto (B := G5.size) (fun g hg => (ow.blk hg).1) x1.size
    simp only [go_sem, ↓reduceIte, Nat.reduceEqDiff, Nat.reduceLeDiff, Nat.reduceAdd, Nat.reduceMul, Nat.reduceSub, Nat.reduceBEq, Nat.reduceGT, Nat.reduceLT, Int.reduceLE, Int.reduceLT, Int.reduceNeg, reduceCtorEq, e11, w1]
    refine ⟨Hold.mk ⟨i + 1, w2, by simp only [go_sem, ↓reduceIte, Nat.reduceEqDiff, Nat.reduceLeDiff, Nat.reduceAdd, Nat.reduceMul, Nat.reduceSub, Nat.reduceBEq, Nat.reduceGT, Nat.reduceLT, Int.reduceLE, Int.reduceLT, Int.reduceNeg, reduceCtorEq, e1], by simp only [go_sem, ↓reduceIte, Nat.reduceEqDiff, Nat.reduceLeDiff, Nat.reduceAdd, Nat.reduceMul, Nat.reduceSub, Nat.reduceBEq, Nat.reduceGT, Nat.reduceLT, Int.reduceLE, Int.reduceLT, Int.reduceNeg, reduceCtorEq, e6], by simp only [go_sem, ↓reduceIte, Nat.reduceEqDiff, Nat.reduceLeDiff, Nat.reduceAdd, Nat.reduceMul, Nat.reduceSub, Nat.reduceBEq, Nat.reduceGT, Nat.reduceLT, Int.reduceLE, Int.reduceLT, Int.reduceNeg, reduceCtorEq, e7], by simp only [go_sem, ↓reduceIte, Nat.reduceEqDiff, Nat.reduceLeDiff, Nat.reduceAdd, Nat.reduceMul, Nat.reduceSub, Nat.reduceBEq, Nat.reduceGT, Nat.reduceLT, Int.reduceLE, Int.reduceLT, Int.reduceNeg, reduceCtorEq, e8], by simp only [go_sem, ↓reduceIte, Nat.reduceEqDiff, Nat.reduceLeDiff, Nat.reduceAdd, Nat.reduceMul, Nat.reduceSub, Nat.reduceBEq, Nat.reduceGT, Nat.reduceLT, Int.reduceLE, Int.reduceLT, Int.reduceNeg, reduceCtorEq, e9], by simp only [go_sem, ↓reduceIte, Nat.reduceEqDiff, Nat.reduceLeDiff, Nat.reduceAdd, Nat.reduceMul, Nat.reduceSub, Nat.reduceBEq, Nat.reduceGT, Nat.reduceLT, Int.reduceLE, Int.reduceLT, Int.reduceNeg, reduceCtorEq], by simp only [go_sem, ↓reduceIte, Nat.reduceEqDiff, Nat.reduceLeDiff, Nat.reduceAdd, Nat.reduceMul, Nat.reduceSub, Nat.reduceBEq, Nat.reduceGT, Nat.reduceLT, Int.reduceLE, Int.reduceLT, Int.reduceNeg, reduceCtorEq], by omega, ?_, x1.trans yu⟩, by omega⟩
    rw [flat_take hil]
    exact ow2
  · have i1 : ¬ (i : Int) < qs.length := by omega
    obtain rfl : i = qs.length := by omega
    rw [List.take_length] at ow
    simp only [go_sem, ↓reduceIte, Nat.reduceEqDiff, Nat.reduceLeDiff, Nat.reduceAdd, Nat.reduceMul, Nat.reduceSub, Nat.reduceBEq, Nat.reduceGT, Nat.reduceLT, Int.reduceLE, Int.reduceLT, Int.reduceNeg, reduceCtorEq, c9_L0, e1, e6, e7, e8, e9, e10, e11, i1]
    refine FunI.by (F16 _ qs.flatten _ (prs_own ow) (by omega)) ?_
    rintro vw G6 ⟨owant, y⟩
    obtain ⟨want, hwant⟩ : ∃ want, want = sortP qs.flatten := ⟨_, rfl⟩
    rw [← hwant] at owant
    have lwant : want.length ≤ 64 * 3000 := by rw [hwant]; have := sortP_len qs.flatten; omega
    obtain ⟨aw, cw, rfl⟩ := prs_form (Own2.sl owant)
    have x56 := step x1 y (Nat.le_refl _)
    have hx1 := x1.size
    replace owant := Own2.mono owant (B' := G5.size) hx1
    replace mg := mg.ext x56
    replace oa := oa.ext x56
    replace oe := oe.ext x56
    replace xg := xg.trans (x56.mono xg.size)
    have sz6 := x56.size
    clear x1 y x56 ow
    simp only [go_sem, ↓reduceIte, Nat.reduceEqDiff, Nat.reduceLeDiff, Nat.reduceAdd, Nat.reduceMul, Nat.reduceSub, Nat.reduceBEq, Nat.reduceGT, Nat.reduceLT, Int.reduceLE, Int.reduceLT, Int.reduceNeg, reduceCtorEq, e1, e6, e7, e8, e9]
    obtain ⟨A0, hA0⟩ : ∃ A0 : Nat → Prop, A0 = fun b => F0 b ∨ b = ga ∨ b = ge := ⟨_, rfl⟩
    have fA0 : ∀ b, A0 b → G2.size ≤ b := fun b hb => by
      rw [hA0] at hb
      rcases hb with hb | hb | hb
      · exact f0 b hb
      · omega
      · omega
    have lA0 : ∀ b, A0 b → b < G5.size := fun b hb => by
      rw [hA0] at hb
      rcases hb with hb | hb | hb
      · have := lF b hb; omega
      · omega
      · omega
    have nwant : ∀ g, blk (.slice aw want.length cw) = some g → ¬ A0 g := fun g hg hA => by
      have := (Own2.blk owant hg).1
      have := lA0 g hA
      omega
    have st : St G6 A0 (.pointer (some ⟨M, 0, none⟩)) ga ge qs.length (List.replicate qs.length default) (List.replicate qs.length 0) (List.replicate qs.length false) (.slice none 0 0) [] G6 :=
      ⟨F0, mg, oa, oe, Own.nil, fun h => by have := lF _ h; omega, fun h => by have := lF _ h; omega, (fun g hg => by cases hg), ⟨Nat.le_refl _, fun b hb => .inl (by
        rw [hA0]
        rcases hb with hb | hb | hb | hb
        · exact .inl hb
        · exact .inr (.inl hb)
        · exact .inr (.inr hb)
        · cases hb), fun _ _ _ => rfl⟩⟩
    have hup : ∀ k, k < qs.length → Up (qs.getD k []) := fun k hk => (hqk k hk).1
    have hlk : ∀ k, k < qs.length → (qs.getD k []).length ≤ 3000 := fun k hk => (hqk k hk).2
    have oi := OI.start qs
    clear mg oa oe lF
    refine LoopI.by mixed (fun ρ' H' => ∃ (i : Nat) (ss : List Src) (ats : List Nat) (ens : List Bool) (w : Value) (out : List Pr) (c : Nat → Nat), ρ' 1 = .slice a1 ps.length c1 ∧ ρ' 6 = .slice aS qs.length cS ∧ ρ' 7 = .pointer (some ⟨M, 0, none⟩) ∧ ρ' 8 = .slice (some ⟨ga, 0, none⟩) qs.length qs.length ∧ ρ' 9 = .slice (some ⟨ge, 0, none⟩) qs.length qs.length ∧ ρ' 12 = .slice aw want.length cw ∧ ρ' 13 = w ∧ ρ' 14 = .int .i64 i ∧ i ≤ ps.length ∧ St G6 A0 (.pointer (some ⟨M, 0, none⟩)) ga ge qs.length ss ats ens w out H' ∧ OI qs ats ens ss out c) (fun ρ' _ => ps.length - (iof (ρ' 14)).toNat) ?_ ?_
    · exact ⟨0, _, _, _, _, _, _, by simp only [go_sem, ↓reduceIte, Nat.reduceEqDiff, Nat.reduceLeDiff, Nat.reduceAdd, Nat.reduceMul, Nat.reduceSub, Nat.reduceBEq, Nat.reduceGT, Nat.reduceLT, Int.reduceLE, Int.reduceLT, Int.reduceNeg, reduceCtorEq, e1], by simp only [go_sem, ↓reduceIte, Nat.reduceEqDiff, Nat.reduceLeDiff, Nat.reduceAdd, Nat.reduceMul, Nat.reduceSub, Nat.reduceBEq, Nat.reduceGT, Nat.reduceLT, Int.reduceLE, Int.reduceLT, Int.reduceNeg, reduceCtorEq, e6], by simp only [go_sem, ↓reduceIte, Nat.reduceEqDiff, Nat.reduceLeDiff, Nat.reduceAdd, Nat.reduceMul, Nat.reduceSub, Nat.reduceBEq, Nat.reduceGT, Nat.reduceLT, Int.reduceLE, Int.reduceLT, Int.reduceNeg, reduceCtorEq, e7], by simp only [go_sem, ↓reduceIte, Nat.reduceEqDiff, Nat.reduceLeDiff, Nat.reduceAdd, Nat.reduceMul, Nat.reduceSub, Nat.reduceBEq, Nat.reduceGT, Nat.reduceLT, Int.reduceLE, Int.reduceLT, Int.reduceNeg, reduceCtorEq, e8], by simp only [go_sem, ↓reduceIte, Nat.reduceEqDiff, Nat.reduceLeDiff, Nat.reduceAdd, Nat.reduceMul, Nat.reduceSub, Nat.reduceBEq, Nat.reduceGT, Nat.reduceLT, Int.reduceLE, Int.reduceLT, Int.reduceNeg, reduceCtorEq, e9], by simp only [go_sem, ↓reduceIte, Nat.reduceEqDiff, Nat.reduceLeDiff, Nat.reduceAdd, Nat.reduceMul, Nat.reduceSub, Nat.reduceBEq, Nat.reduceGT, Nat.reduceLT, Int.reduceLE, Int.reduceLT, Int.reduceNeg, reduceCtorEq], rfl, by simp only [go_sem, ↓reduceIte, Nat.reduceEqDiff, Nat.reduceLeDiff, Nat.reduceAdd, Nat.reduceMul, Nat.reduceSub, Nat.reduceBEq, Nat.reduceGT, Nat.reduceLT, Int.reduceLE, Int.reduceLT, Int.reduceNeg, reduceCtorEq]; rfl, by omega, by simp only [go_sem, ↓reduceIte, Nat.reduceEqDiff, Nat.reduceLeDiff, Nat.reduceAdd, Nat.reduceMul, Nat.reduceSub, Nat.reduceBEq, Nat.reduceGT, Nat.reduceLT, Int.reduceLE, Int.reduceLT, Int.reduceNeg, reduceCtorEq]; exact st, oi⟩
    clear e1 e6 e7 e8 e9 e10 e11 st oi
    rintro ρ2 H7 ⟨i, ss, ats, ens, w, out, c, e1, e6, e7, e8, e9, e12, e13, e14, hi, st, oi⟩
    have xg7 := xg.trans (st.upto (B := G2.size) fA0 xg.size)
    have fin : ∀ {H' : Heap}, (∃ ss ats ens w out, St G6 A0 (.pointer (some ⟨M, 0, none⟩)) ga ge qs.length ss ats ens w out H') → Ext H H' := fun ⟨_, _, _, _, _, h⟩ => step x0 (xg.trans (h.upto (B := G2.size) fA0 xg.size)) (Nat.le_refl _)
    by_cases hcond : i < ps.length ∧ i < 2000 ∧ 0 < qs.length
    · obtain ⟨hil2, hi2000, hn0⟩ := hcond
      have i2 : (i : Int) < ps.length := by omega
      have i3 : (i : Int) < 2000 := by omega
      have i4 : (0 : Int) < qs.length := by omega
      have i4' : ¬ (qs.length : Int) = 0 := by omega
      have z0 : (0 : Int) ≤ i := by omega
      have w1 : IntKind.i64.wrap ((i : Int) + 1) = ((i + 1 : Nat) : Int) := by rw [w64_id (by omega) (by omega)]; omega
      obtain ⟨b1, o1, rfl⟩ := Sl.at hv1 (by omega)
      obtain ⟨pI, pM⟩ : hget H7 b1 (o1 + i * 2) = some (.int .i64 (ps.getD i (0, 0)).1) ∧ hget H7 b1 (o1 + i * 2 + 1) = some (.int .i64 (ps.getD i (0, 0)).2) := by
        have h1 := Sl.ext hv1 (step x0 xg7 (Nat.le_refl _))
        obtain ⟨q1, q2⟩ := cp_get (ps := ps) (i := i) hil2
        have hl := Sl.length h1
        rw [cp_len] at hl
        exact ⟨by rw [Sl.get h1 (by omega)]; exact q1, by rw [Nat.add_assoc, Sl.get h1 (by omega)]; exact q2⟩
      obtain ⟨k, hk, n1, n2, n3, n4⟩ := modn (ps.getD i (0, 0)).1 qs.length hn0 (by omega)
      have k0 : (0 : Int) ≤ k := by omega
      have k1 : (k : Int) < qs.length := by omega
      have ge1 := st.getE hk
      cases hen : ens.getD k false with
      | true =>
        rw [hen] at ge1
        simp only [go_sem, ↓reduceIte, Nat.reduceEqDiff, Nat.reduceLeDiff, Nat.reduceAdd, Nat.reduceMul, Nat.reduceSub, Nat.reduceBEq, Nat.reduceGT, Nat.reduceLT, Int.reduceLE, Int.reduceLT, Int.reduceNeg, reduceCtorEq, c9_L1, e1, e6, e7, e8, e9, e12, e13, e14, i2, i3, i4, i4', z0, w1, pI, n1, n2, n3, n4, k0, k1, ge1, ne_eq, not_false_eq_true, Int.toNat_natCast, Option.bind_some]
        exact ⟨Hold.mk ⟨i + 1, ss, ats, ens, w, out, c, by simp only [go_sem, ↓reduceIte, Nat.reduceEqDiff, Nat.reduceLeDiff, Nat.reduceAdd, Nat.reduceMul, Nat.reduceSub, Nat.reduceBEq, Nat.reduceGT, Nat.reduceLT, Int.reduceLE, Int.reduceLT, Int.reduceNeg, reduceCtorEq, e1], by simp only [go_sem, ↓reduceIte, Nat.reduceEqDiff, Nat.reduceLeDiff, Nat.reduceAdd, Nat.reduceMul, Nat.reduceSub, Nat.reduceBEq, Nat.reduceGT, Nat.reduceLT, Int.reduceLE, Int.reduceLT, Int.reduceNeg, reduceCtorEq, e6], by simp only [go_sem, ↓reduceIte, Nat.reduceEqDiff, Nat.reduceLeDiff, Nat.reduceAdd, Nat.reduceMul, Nat.reduceSub, Nat.reduceBEq, Nat.reduceGT, Nat.reduceLT, Int.reduceLE, Int.reduceLT, Int.reduceNeg, reduceCtorEq, e7], by simp only [go_sem, ↓reduceIte, Nat.reduceEqDiff, Nat.reduceLeDiff, Nat.reduceAdd, Nat.reduceMul, Nat.reduceSub, Nat.reduceBEq, Nat.reduceGT, Nat.reduceLT, Int.reduceLE, Int.reduceLT, Int.reduceNeg, reduceCtorEq, e8], by simp only [go_sem, ↓reduceIte, Nat.reduceEqDiff, Nat.reduceLeDiff, Nat.reduceAdd, Nat.reduceMul, Nat.reduceSub, Nat.reduceBEq, Nat.reduceGT, Nat.reduceLT, Int.reduceLE, Int.reduceLT, Int.reduceNeg, reduceCtorEq, e9], by simp only [go_sem, ↓reduceIte, Nat.reduceEqDiff, Nat.reduceLeDiff, Nat.reduceAdd, Nat.reduceMul, Nat.reduceSub, Nat.reduceBEq, Nat.reduceGT, Nat.reduceLT, Int.reduceLE, Int.reduceLT, Int.reduceNeg, reduceCtorEq, e12], by simp only [go_sem, ↓reduceIte, Nat.reduceEqDiff, Nat.reduceLeDiff, Nat.reduceAdd, Nat.reduceMul, Nat.reduceSub, Nat.reduceBEq, Nat.reduceGT, Nat.reduceLT, Int.reduceLE, Int.reduceLT, Int.reduceNeg, reduceCtorEq, e13], by simp only [go_sem, ↓reduceIte, Nat.reduceEqDiff, Nat.reduceLeDiff, Nat.reduceAdd, Nat.reduceMul, Nat.reduceSub, Nat.reduceBEq, Nat.reduceGT, Nat.reduceLT, Int.reduceLE, Int.reduceLT, Int.reduceNeg, reduceCtorEq], by omega, st, oi⟩, by omega⟩
      | false =>
        rw [hen] at ge1
        have ga1 := st.getA hk
        obtain ⟨bS, oS, rfl⟩ := os.at (by omega)
        obtain ⟨aq, cq, g1, hp⟩ := (os.ext xg7).get hk
        obtain ⟨r, hr, r1, r2, r3, r4⟩ := modn (ps.getD i (0, 0)).2 50 (by decide) (by decide)
        have r1' : Int.tmod (Int.tmod (ps.getD i (0, 0)).2 50 + 50) 50 = (r : Int) := r1
        have r2' : IntKind.i64.wrap (Int.tmod (ps.getD i (0, 0)).2 50) = Int.tmod (ps.getD i (0, 0)).2 50 := r2
        have r3' : IntKind.i64.wrap (Int.tmod (ps.getD i (0, 0)).2 50 + 50) = Int.tmod (ps.getD i (0, 0)).2 50 + 50 := r3
        have hca := oi.ca k hk
        have hq3 := hlk k hk
        have w2 : IntKind.i64.wrap (((ats.getD k 0 : Nat) : Int) + r) = ((ats.getD k 0 + r : Nat) : Int) := by rw [w64_id (by omega) (by omega)]; omega
        obtain ⟨t, ht0⟩ : ∃ t, t = min (ats.getD k 0 + r) (qs.getD k []).length := ⟨_, rfl⟩
        have ht : (if ((ats.getD k 0 + r : Nat) : Int) < ((qs.getD k []).length : Int) then ((ats.getD k 0 + r : Nat) : Int) else ((qs.getD k []).length : Int)) = (t : Int) := by split <;> omega
        have ht1 : ats.getD k 0 ≤ t := by omega
        have ht2 : t ≤ (qs.getD k []).length := by omega
        have hdec : decide ((t : Int) = ((qs.getD k []).length : Int)) = decide (t = (qs.getD k []).length) := by rw [decide_eq_decide]; omega
        simp only [go_sem, ↓reduceIte, Nat.reduceEqDiff, Nat.reduceLeDiff, Nat.reduceAdd, Nat.reduceMul, Nat.reduceSub, Nat.reduceBEq, Nat.reduceGT, Nat.reduceLT, Int.reduceLE, Int.reduceLT, Int.reduceNeg, reduceCtorEq, c9_L1, e1, e6, e7, e8, e9, e12, e13, e14, ht, i2, i3, i4, i4', z0, w1, pI, pM, n1, n2, n3, n4, k0, k1, ge1, ga1, g1, r1', r2', r3', r4, w2, ne_eq, not_false_eq_true, Int.toNat_natCast, Option.bind_some, show ¬ (50 : Int) = 0 by decide]
        have hcq := Sl.lecap hp
        refine ⟨⟨⟨by omega, by omega⟩, by omega, by omega⟩, ?_⟩
        have hsub := Sl.sub (l := ats.getD k 0) (h := t) (m := cq) hp ht1 ht2 (by have := Sl.lecap hp; omega)
        rw [cp_drop, cp_take, ← List.drop_take] at hsub
        obtain ⟨piece, hpc⟩ : ∃ l, l = ((qs.getD k []).take t).drop (ats.getD k 0) := ⟨_, rfl⟩
        have hpl : piece.length ≤ 3000 := by rw [hpc, td_len ht2]; omega
        rw [← hpc] at hsub
        refine FunI.by (F18 _ piece _ hsub (by omega)) ?_
        rintro v8 H8 ⟨o8, y8⟩
        simp only [go_sem, ↓reduceIte, Nat.reduceEqDiff, Nat.reduceLeDiff, Nat.reduceAdd, Nat.reduceMul, Nat.reduceSub, Nat.reduceBEq, Nat.reduceGT, Nat.reduceLT, Int.reduceLE, Int.reduceLT, Int.reduceNeg, reduceCtorEq, e1, e6, e7, e8, e9, e12, e13, e14, k0, k1, g1, ga1, Int.toNat_natCast, hdec]
        refine ⟨y8, ?_⟩
        have hls := oi.lens hlk
        refine FunI.by (st.give' y8 (k : Int) o8 (decide (t = (qs.getD k []).length)) (fun j hj => by have := hls j hj; omega)) ?_
        rintro _ H9 ⟨rfl, st9⟩
        obtain ⟨og1, og2⟩ := oi.give hup hk hen ht1 ht2
        rw [← hpc] at og1 og2
        obtain ⟨ss9, hss9⟩ : ∃ s, s = (giveS ss k piece (decide (t = (qs.getD k []).length))).1 := ⟨_, rfl⟩
        rw [← hss9] at st9 og2
        obtain ⟨aq9, cq9, g9, _⟩ := (os.ext (xg.trans (st9.upto (B := G2.size) fA0 xg.size))).get hk
        obtain ⟨can9, st10⟩ := st9.setE hk (decide (t = (qs.getD k []).length))
        simp only [go_sem, ↓reduceIte, Nat.reduceEqDiff, Nat.reduceLeDiff, Nat.reduceAdd, Nat.reduceMul, Nat.reduceSub, Nat.reduceBEq, Nat.reduceGT, Nat.reduceLT, Int.reduceLE, Int.reduceLT, Int.reduceNeg, reduceCtorEq, og1, e1, e6, e7, e8, e9, e12, e13, e14, k0, k1, g9, hdec, can9, Int.toNat_natCast]
        obtain ⟨can10, st11⟩ := st10.setA hk t
        generalize hput H9 ge k [.bool (decide (t = (qs.getD k []).length))] = H10 at *
        simp only [go_sem, ↓reduceIte, Nat.reduceEqDiff, Nat.reduceLeDiff, Nat.reduceAdd, Nat.reduceMul, Nat.reduceSub, Nat.reduceBEq, Nat.reduceGT, Nat.reduceLT, Int.reduceLE, Int.reduceLT, Int.reduceNeg, reduceCtorEq, e1, e6, e7, e8, e9, e12, e13, e14, k0, k1, can10, Int.toNat_natCast]
        refine ⟨rfl, rfl, ?_⟩
        have hol : out.length ≤ want.length + 1 := by have := og2.outW.2; rw [← hwant] at this; omega
        have hls9 := og2.lens hlk
        refine FunI.by (st11.told (fun j hj => by have := hls9 j hj; omega) want.length (by omega) hol) ?_
        rintro wr H12 ⟨ss12, out12, hT, st12⟩
        obtain ⟨c12, oi12, _⟩ := OI.told hT hup (by rw [hwant]; exact Nat.le_refl _) og2
        obtain ⟨ow1, ow2⟩ := oi12.outW
        rw [← hwant] at ow1 ow2
        obtain ⟨⟨ar, cr, rfl⟩, hpr⟩ := st12.form
        have j1 : ¬ (want.length : Int) < out12.length := by omega
        simp only [go_sem, ↓reduceIte, Nat.reduceEqDiff, Nat.reduceLeDiff, Nat.reduceAdd, Nat.reduceMul, Nat.reduceSub, Nat.reduceBEq, Nat.reduceGT, Nat.reduceLT, Int.reduceLE, Int.reduceLT, Int.reduceNeg, reduceCtorEq, og1, e1, e6, e7, e8, e9, e12, e14]
        refine FunI.by (F23 _ _) ?_
        rintro _ _ ⟨rfl, rfl⟩
        simp only [go_sem, ↓reduceIte, Nat.reduceEqDiff, Nat.reduceLeDiff, Nat.reduceAdd, Nat.reduceMul, Nat.reduceSub, Nat.reduceBEq, Nat.reduceGT, Nat.reduceLT, Int.reduceLE, Int.reduceLT, Int.reduceNeg, reduceCtorEq, j1, e1, e6, e7, e8, e9, e12, e14]
        have owant12 := Own2.sl (st12.keep2 owant nwant)
        have hcw := Sl.lecap owant12
        rw [opt_id]
        refine ⟨⟨by omega, by omega⟩, ?_⟩
        refine FunI.by (F15 _ _ out12 (want.take out12.length) _ hpr (prs_cut owant12 ow2) (by omega)) ?_
        rintro _ _ ⟨rfl, rfl⟩
        rw [← ow1]
        simp only [go_sem, ↓reduceIte, Nat.reduceEqDiff, Nat.reduceLeDiff, Nat.reduceAdd, Nat.reduceMul, Nat.reduceSub, Nat.reduceBEq, Nat.reduceGT, Nat.reduceLT, Int.reduceLE, Int.reduceLT, Int.reduceNeg, reduceCtorEq, decide_true, e14, w1]
        exact ⟨Hold.mk ⟨i + 1, ss12, _, _, _, out12, c12, by simp only [go_sem, ↓reduceIte, Nat.reduceEqDiff, Nat.reduceLeDiff, Nat.reduceAdd, Nat.reduceMul, Nat.reduceSub, Nat.reduceBEq, Nat.reduceGT, Nat.reduceLT, Int.reduceLE, Int.reduceLT, Int.reduceNeg, reduceCtorEq, e1], by simp only [go_sem, ↓reduceIte, Nat.reduceEqDiff, Nat.reduceLeDiff, Nat.reduceAdd, Nat.reduceMul, Nat.reduceSub, Nat.reduceBEq, Nat.reduceGT, Nat.reduceLT, Int.reduceLE, Int.reduceLT, Int.reduceNeg, reduceCtorEq, e6], by simp only [go_sem, ↓reduceIte, Nat.reduceEqDiff, Nat.reduceLeDiff, Nat.reduceAdd, Nat.reduceMul, Nat.reduceSub, Nat.reduceBEq, Nat.reduceGT, Nat.reduceLT, Int.reduceLE, Int.reduceLT, Int.reduceNeg, reduceCtorEq, e7], by simp only [go_sem, ↓reduceIte, Nat.reduceEqDiff, Nat.reduceLeDiff, Nat.reduceAdd, Nat.reduceMul, Nat.reduceSub, Nat.reduceBEq, Nat.reduceGT, Nat.reduceLT, Int.reduceLE, Int.reduceLT, Int.reduceNeg, reduceCtorEq, e8], by simp only [go_sem, ↓reduceIte, Nat.reduceEqDiff, Nat.reduceLeDiff, Nat.reduceAdd, Nat.reduceMul, Nat.reduceSub, Nat.reduceBEq, Nat.reduceGT, Nat.reduceLT, Int.reduceLE, Int.reduceLT, Int.reduceNeg, reduceCtorEq, e9], by simp only [go_sem, ↓reduceIte, Nat.reduceEqDiff, Nat.reduceLeDiff, Nat.reduceAdd, Nat.reduceMul, Nat.reduceSub, Nat.reduceBEq, Nat.reduceGT, Nat.reduceLT, Int.reduceLE, Int.reduceLT, Int.reduceNeg, reduceCtorEq, e12], by simp only [go_sem, ↓reduceIte, Nat.reduceEqDiff, Nat.reduceLeDiff, Nat.reduceAdd, Nat.reduceMul, Nat.reduceSub, Nat.reduceBEq, Nat.reduceGT, Nat.reduceLT, Int.reduceLE, Int.reduceLT, Int.reduceNeg, reduceCtorEq], by simp only [go_sem, ↓reduceIte, Nat.reduceEqDiff, Nat.reduceLeDiff, Nat.reduceAdd, Nat.reduceMul, Nat.reduceSub, Nat.reduceBEq, Nat.reduceGT, Nat.reduceLT, Int.reduceLE, Int.reduceLT, Int.reduceNeg, reduceCtorEq], by omega, st12, oi12⟩, by omega⟩
    · rcases (by omega : ¬ i < ps.length ∨ (i < ps.length ∧ ¬ i < 2000) ∨ (i < ps.length ∧ i < 2000 ∧ ¬ 0 < qs.length)) with h1 | ⟨h1, h2⟩ | ⟨h1, h2, h3⟩
      case' inl =>
        have i2 : ¬ (i : Int) < ps.length := by omega
        simp only [go_sem, ↓reduceIte, Nat.reduceEqDiff, Nat.reduceLeDiff, Nat.reduceAdd, Nat.reduceMul, Nat.reduceSub, Nat.reduceBEq, Nat.reduceGT, Nat.reduceLT, Int.reduceLE, Int.reduceLT, Int.reduceNeg, reduceCtorEq, c9_L1, e1, e6, e7, e8, e9, e12, e13, e14, i2]
      case' inr.inl =>
        have i2 : (i : Int) < ps.length := by omega
        have i3 : ¬ (i : Int) < 2000 := by omega
        simp only [go_sem, ↓reduceIte, Nat.reduceEqDiff, Nat.reduceLeDiff, Nat.reduceAdd, Nat.reduceMul, Nat.reduceSub, Nat.reduceBEq, Nat.reduceGT, Nat.reduceLT, Int.reduceLE, Int.reduceLT, Int.reduceNeg, reduceCtorEq, c9_L1, e1, e6, e7, e8, e9, e12, e13, e14, i2, i3]
      case' inr.inr =>
        have i2 : (i : Int) < ps.length := by omega
        have i3 : (i : Int) < 2000 := by omega
        have i4 : ¬ (0 : Int) < qs.length := by omega
        simp only [go_sem, ↓reduceIte, Nat.reduceEqDiff, Nat.reduceLeDiff, Nat.reduceAdd, Nat.reduceMul, Nat.reduceSub, Nat.reduceBEq, Nat.reduceGT, Nat.reduceLT, Int.reduceLE, Int.reduceLT, Int.reduceNeg, reduceCtorEq, c9_L1, e1, e6, e7, e8, e9, e12, e13, e14, i2, i3, i4]
      all_goals
        have hEn : ∀ k, k < qs.length → ens.getD k false = true → ats.getD k 0 = (qs.getD k []).length := fun k hk he => (oi.en k hk).2 he
        refine LoopI.by mixed (fun ρ' H' => ∃ (k : Nat) (ss' : List Src) (ats' : List Nat) (ens' : List Bool), ρ' 6 = .slice aS qs.length cS ∧ ρ' 7 = .pointer (some ⟨M, 0, none⟩) ∧ ρ' 8 = .slice (some ⟨ga, 0, none⟩) qs.length qs.length ∧ ρ' 9 = .slice (some ⟨ge, 0, none⟩) qs.length qs.length ∧ ρ' 12 = .slice aw want.length cw ∧ ρ' 13 = w ∧ ρ' 18 = .int .i64 k ∧ k ≤ qs.length ∧ St G6 A0 (.pointer (some ⟨M, 0, none⟩)) ga ge qs.length ss' ats ens w out H' ∧ OI qs ats' ens' ss' out c ∧ (∀ j, j < k → ens'.getD j false = true) ∧ (∀ j, k ≤ j → j < qs.length → ens'.getD j false = ens.getD j false ∧ ats'.getD j 0 = ats.getD j 0)) (fun ρ' _ => qs.length - (iof (ρ' 18)).toNat) ?_ ?_
        · exact ⟨0, ss, ats, ens, by simp only [go_sem, ↓reduceIte, Nat.reduceEqDiff, Nat.reduceLeDiff, Nat.reduceAdd, Nat.reduceMul, Nat.reduceSub, Nat.reduceBEq, Nat.reduceGT, Nat.reduceLT, Int.reduceLE, Int.reduceLT, Int.reduceNeg, reduceCtorEq, e6], by simp only [go_sem, ↓reduceIte, Nat.reduceEqDiff, Nat.reduceLeDiff, Nat.reduceAdd, Nat.reduceMul, Nat.reduceSub, Nat.reduceBEq, Nat.reduceGT, Nat.reduceLT, Int.reduceLE, Int.reduceLT, Int.reduceNeg, reduceCtorEq, e7], by simp only [go_sem, ↓reduceIte, Nat.reduceEqDiff, Nat.reduceLeDiff, Nat.reduceAdd, Nat.reduceMul, Nat.reduceSub, Nat.reduceBEq, Nat.reduceGT, Nat.reduceLT, Int.reduceLE, Int.reduceLT, Int.reduceNeg, reduceCtorEq, e8], by simp only [go_sem, ↓reduceIte, Nat.reduceEqDiff, Nat.reduceLeDiff, Nat.reduceAdd, Nat.reduceMul, Nat.reduceSub, Nat.reduceBEq, Nat.reduceGT, Nat.reduceLT, Int.reduceLE, Int.reduceLT, Int.reduceNeg, reduceCtorEq, e9], by simp only [go_sem, ↓reduceIte, Nat.reduceEqDiff, Nat.reduceLeDiff, Nat.reduceAdd, Nat.reduceMul, Nat.reduceSub, Nat.reduceBEq, Nat.reduceGT, Nat.reduceLT, Int.reduceLE, Int.reduceLT, Int.reduceNeg, reduceCtorEq, e12], by simp only [go_sem, ↓reduceIte, Nat.reduceEqDiff, Nat.reduceLeDiff, Nat.reduceAdd, Nat.reduceMul, Nat.reduceSub, Nat.reduceBEq, Nat.reduceGT, Nat.reduceLT, Int.reduceLE, Int.reduceLT, Int.reduceNeg, reduceCtorEq, e13], by simp only [go_sem, ↓reduceIte, Nat.reduceEqDiff, Nat.reduceLeDiff, Nat.reduceAdd, Nat.reduceMul, Nat.reduceSub, Nat.reduceBEq, Nat.reduceGT, Nat.reduceLT, Int.reduceLE, Int.reduceLT, Int.reduceNeg, reduceCtorEq]; rfl, by omega, st, oi, by omega, fun _ _ _ => ⟨rfl, rfl⟩⟩
        clear e1 e6 e7 e8 e9 e12 e13 e14 oi
        rintro ρ3 H8 ⟨k, ss2, ats2, ens2, e6, e7, e8, e9, e12, e13, e18, hk, st2, oi, hdone, hrest⟩
        have hls := oi.lens hlk
        by_cases hkl : k < qs.length
        · have j1 : (k : Int) < qs.length := by omega
          have k0 : (0 : Int) ≤ k := by omega
          have w5 : IntKind.i64.wrap ((k : Int) + 1) = ((k + 1 : Nat) : Int) := by rw [w64_id (by omega) (by omega)]; omega
          have ge1 := st2.getE hkl
          obtain ⟨hr1, hr2⟩ := hrest k (Nat.le_refl _) hkl
          cases hen : ens.getD k false with
          | true =>
            rw [hen] at ge1 hr1
            simp only [go_sem, ↓reduceIte, Nat.reduceEqDiff, Nat.reduceLeDiff, Nat.reduceAdd, Nat.reduceMul, Nat.reduceSub, Nat.reduceBEq, Nat.reduceGT, Nat.reduceLT, Int.reduceLE, Int.reduceLT, Int.reduceNeg, reduceCtorEq, c9_L2, e6, e7, e8, e9, e12, e13, e18, j1, k0, w5, ge1, Int.toNat_natCast]
            refine ⟨Hold.mk ⟨k + 1, ss2, ats2, ens2, by simp only [go_sem, ↓reduceIte, Nat.reduceEqDiff, Nat.reduceLeDiff, Nat.reduceAdd, Nat.reduceMul, Nat.reduceSub, Nat.reduceBEq, Nat.reduceGT, Nat.reduceLT, Int.reduceLE, Int.reduceLT, Int.reduceNeg, reduceCtorEq, e6], by simp only [go_sem, ↓reduceIte, Nat.reduceEqDiff, Nat.reduceLeDiff, Nat.reduceAdd, Nat.reduceMul, Nat.reduceSub, Nat.reduceBEq, Nat.reduceGT, Nat.reduceLT, Int.reduceLE, Int.reduceLT, Int.reduceNeg, reduceCtorEq, e7], by simp only [go_sem, ↓reduceIte, Nat.reduceEqDiff, Nat.reduceLeDiff, Nat.reduceAdd, Nat.reduceMul, Nat.reduceSub, Nat.reduceBEq, Nat.reduceGT, Nat.reduceLT, Int.reduceLE, Int.reduceLT, Int.reduceNeg, reduceCtorEq, e8], by simp only [go_sem, ↓reduceIte, Nat.reduceEqDiff, Nat.reduceLeDiff, Nat.reduceAdd, Nat.reduceMul, Nat.reduceSub, Nat.reduceBEq, Nat.reduceGT, Nat.reduceLT, Int.reduceLE, Int.reduceLT, Int.reduceNeg, reduceCtorEq, e9], by simp only [go_sem, ↓reduceIte, Nat.reduceEqDiff, Nat.reduceLeDiff, Nat.reduceAdd, Nat.reduceMul, Nat.reduceSub, Nat.reduceBEq, Nat.reduceGT, Nat.reduceLT, Int.reduceLE, Int.reduceLT, Int.reduceNeg, reduceCtorEq, e12], by simp only [go_sem, ↓reduceIte, Nat.reduceEqDiff, Nat.reduceLeDiff, Nat.reduceAdd, Nat.reduceMul, Nat.reduceSub, Nat.reduceBEq, Nat.reduceGT, Nat.reduceLT, Int.reduceLE, Int.reduceLT, Int.reduceNeg, reduceCtorEq, e13], by simp only [go_sem, ↓reduceIte, Nat.reduceEqDiff, Nat.reduceLeDiff, Nat.reduceAdd, Nat.reduceMul, Nat.reduceSub, Nat.reduceBEq, Nat.reduceGT, Nat.reduceLT, Int.reduceLE, Int.reduceLT, Int.reduceNeg, reduceCtorEq], by omega, st2, oi, fun j hj => ?_, fun j hj1 hj2 => hrest j (by omega) hj2⟩, by omega⟩
            by_cases hjk : j = k
            · rw [hjk]; exact hr1
            · exact hdone j (by omega)
          | false =>
            rw [hen] at ge1 hr1
            have ga1 := st2.getA hkl
            obtain ⟨bS, oS, rfl⟩ := os.at (by omega)
            obtain ⟨aq, cq, g1, hp⟩ := (os.ext (xg.trans (st2.upto (B := G2.size) fA0 xg.size))).get hkl
            have hca := (oi.ca k hkl).2
            have hq3 := hlk k hkl
            have hcq := Sl.lecap hp
            rw [hr2] at hca
            have z2 : ((ats.getD k 0 : Nat) : Int) ≤ ((qs.getD k []).length : Int) := by omega
            have z3 : (0 : Int) ≤ ((ats.getD k 0 : Nat) : Int) := by omega
            simp only [go_sem, ↓reduceIte, Nat.reduceEqDiff, Nat.reduceLeDiff, Nat.reduceAdd, Nat.reduceMul, Nat.reduceSub, Nat.reduceBEq, Nat.reduceGT, Nat.reduceLT, Int.reduceLE, Int.reduceLT, Int.reduceNeg, reduceCtorEq, c9_L2, e6, e7, e8, e9, e12, e13, e18, j1, k0, ge1, ga1, g1, z2, z3, Int.toNat_natCast]
            have hsub := Sl.sub (l := ats.getD k 0) (h := (qs.getD k []).length) (m := cq) hp hca (Nat.le_refl _) hcq
            rw [cp_drop, cp_take, ← List.drop_take] at hsub
            obtain ⟨piece, hpc⟩ : ∃ l, l = ((qs.getD k []).take (qs.getD k []).length).drop (ats.getD k 0) := ⟨_, rfl⟩
            have hpl : piece.length ≤ 3000 := by rw [hpc, td_len (Nat.le_refl _)]; omega
            rw [← hpc] at hsub
            refine FunI.by (F18 _ piece _ hsub (by omega)) ?_
            rintro v9 H9 ⟨o9, y9⟩
            simp only [go_sem, ↓reduceIte, Nat.reduceEqDiff, Nat.reduceLeDiff, Nat.reduceAdd, Nat.reduceMul, Nat.reduceSub, Nat.reduceBEq, Nat.reduceGT, Nat.reduceLT, Int.reduceLE, Int.reduceLT, Int.reduceNeg, reduceCtorEq, e6, e7, e8, e9, e12, e13, e18, k0, j1, g1, ga1, Int.toNat_natCast]
            refine ⟨y9, ?_⟩
            refine FunI.by (st2.give' y9 (k : Int) o9 true (fun j hj => by have := hls j hj; omega)) ?_
            rintro _ H10 ⟨rfl, st10⟩
            obtain ⟨og1, og2⟩ := oi.give hup hkl hr1 (by rw [hr2]; exact hca) (Nat.le_refl _)
            rw [decide_eq_true (rfl : (qs.getD k []).length = (qs.getD k []).length), hr2, ← hpc] at og1 og2
            simp only [go_sem, ↓reduceIte, Nat.reduceEqDiff, Nat.reduceLeDiff, Nat.reduceAdd, Nat.reduceMul, Nat.reduceSub, Nat.reduceBEq, Nat.reduceGT, Nat.reduceLT, Int.reduceLE, Int.reduceLT, Int.reduceNeg, reduceCtorEq, og1]
            refine FunI.by (F23 _ _) ?_
            rintro _ _ ⟨rfl, rfl⟩
            simp only [go_sem, ↓reduceIte, Nat.reduceEqDiff, Nat.reduceLeDiff, Nat.reduceAdd, Nat.reduceMul, Nat.reduceSub, Nat.reduceBEq, Nat.reduceGT, Nat.reduceLT, Int.reduceLE, Int.reduceLT, Int.reduceNeg, reduceCtorEq, e18, w5]
            have hka : k < ats2.length := by rw [oi.l2]; exact hkl
            have hke : k < ens2.length := by rw [oi.l3]; exact hkl
            refine ⟨Hold.mk ⟨k + 1, _, _, _, by simp only [go_sem, ↓reduceIte, Nat.reduceEqDiff, Nat.reduceLeDiff, Nat.reduceAdd, Nat.reduceMul, Nat.reduceSub, Nat.reduceBEq, Nat.reduceGT, Nat.reduceLT, Int.reduceLE, Int.reduceLT, Int.reduceNeg, reduceCtorEq, e6], by simp only [go_sem, ↓reduceIte, Nat.reduceEqDiff, Nat.reduceLeDiff, Nat.reduceAdd, Nat.reduceMul, Nat.reduceSub, Nat.reduceBEq, Nat.reduceGT, Nat.reduceLT, Int.reduceLE, Int.reduceLT, Int.reduceNeg, reduceCtorEq, e7], by simp only [go_sem, ↓reduceIte, Nat.reduceEqDiff, Nat.reduceLeDiff, Nat.reduceAdd, Nat.reduceMul, Nat.reduceSub, Nat.reduceBEq, Nat.reduceGT, Nat.reduceLT, Int.reduceLE, Int.reduceLT, Int.reduceNeg, reduceCtorEq, e8], by simp only [go_sem, ↓reduceIte, Nat.reduceEqDiff, Nat.reduceLeDiff, Nat.reduceAdd, Nat.reduceMul, Nat.reduceSub, Nat.reduceBEq, Nat.reduceGT, Nat.reduceLT, Int.reduceLE, Int.reduceLT, Int.reduceNeg, reduceCtorEq, e9], by simp only [go_sem, ↓reduceIte, Nat.reduceEqDiff, Nat.reduceLeDiff, Nat.reduceAdd, Nat.reduceMul, Nat.reduceSub, Nat.reduceBEq, Nat.reduceGT, Nat.reduceLT, Int.reduceLE, Int.reduceLT, Int.reduceNeg, reduceCtorEq, e12], by simp only [go_sem, ↓reduceIte, Nat.reduceEqDiff, Nat.reduceLeDiff, Nat.reduceAdd, Nat.reduceMul, Nat.reduceSub, Nat.reduceBEq, Nat.reduceGT, Nat.reduceLT, Int.reduceLE, Int.reduceLT, Int.reduceNeg, reduceCtorEq, e13], by simp only [go_sem, ↓reduceIte, Nat.reduceEqDiff, Nat.reduceLeDiff, Nat.reduceAdd, Nat.reduceMul, Nat.reduceSub, Nat.reduceBEq, Nat.reduceGT, Nat.reduceLT, Int.reduceLE, Int.reduceLT, Int.reduceNeg, reduceCtorEq], by omega, st10, og2, fun j hj => ?_, fun j hj1 hj2 => ?_⟩, by omega⟩
            · rw [getD_set hke]
              by_cases hjk : j = k
              · rw [if_pos hjk]
              · rw [if_neg hjk]; exact hdone j (by omega)
            · rw [getD_set hke, getD_set hka, if_neg (by omega), if_neg (by omega)]
              exact hrest j (by omega) hj2
        · have j1 : ¬ (k : Int) < qs.length := by omega
          obtain rfl : k = qs.length := by omega
          simp only [go_sem, ↓reduceIte, Nat.reduceEqDiff, Nat.reduceLeDiff, Nat.reduceAdd, Nat.reduceMul, Nat.reduceSub, Nat.reduceBEq, Nat.reduceGT, Nat.reduceLT, Int.reduceLE, Int.reduceLT, Int.reduceNeg, reduceCtorEq, c9_L2, e6, e7, e8, e9, e12, e13, e18, j1]
          have hol : out.length ≤ want.length + 1 := by have := oi.outW.2; rw [← hwant] at this; omega
          refine FunI.by (st2.told (fun j hj => by have := hls j hj; omega) want.length (by omega) hol) ?_
          rintro wr H9 ⟨ss9, out9, hT, st9⟩
          obtain ⟨c9, oi9, hn9⟩ := OI.told hT hup (by rw [hwant]; exact Nat.le_refl _) oi
          obtain ⟨d1, d2, d3⟩ := oi9.done hdone hn9
          rw [← hwant] at d1
          subst d1
          have hls9 := oi9.lens hlk
          simp only [go_sem, ↓reduceIte, Nat.reduceEqDiff, Nat.reduceLeDiff, Nat.reduceAdd, Nat.reduceMul, Nat.reduceSub, Nat.reduceBEq, Nat.reduceGT, Nat.reduceLT, Int.reduceLE, Int.reduceLT, Int.reduceNeg, reduceCtorEq, e6, e7, e8, e9, e12]
          obtain ⟨F9, hF9⟩ := id st9
          refine FunI.by (mg_wants hF9.mg) ?_
          rintro _ H10 ⟨rfl, y10⟩
          have st10 := st9.ext y10
          rw [d2]
          simp only [go_sem, ↓reduceIte, Nat.reduceEqDiff, Nat.reduceLeDiff, Nat.reduceAdd, Nat.reduceMul, Nat.reduceSub, Nat.reduceBEq, Nat.reduceGT, Nat.reduceLT, Int.reduceLE, Int.reduceLT, Int.reduceNeg, reduceCtorEq, e7, e12]
          obtain ⟨F10, hF10⟩ := id st10
          refine FunI.by (mg_left hF10.mg (fun j hj => by have := hls9 j hj; omega)) ?_
          rintro _ H11 ⟨rfl, y11⟩
          have st11 := st10.ext y11
          rw [d3]
          simp only [go_sem, ↓reduceIte, Nat.reduceEqDiff, Nat.reduceLeDiff, Nat.reduceAdd, Nat.reduceMul, Nat.reduceSub, Nat.reduceBEq, Nat.reduceGT, Nat.reduceLT, Int.reduceLE, Int.reduceLT, Int.reduceNeg, reduceCtorEq, e7, e12]
          refine FunI.by (F15 _ _ out9 out9 _ st11.form.2 (Own2.sl (st11.keep2 owant nwant)) (by omega)) ?_
          rintro _ _ ⟨rfl, rfl⟩
          simp only [go_sem, ↓reduceIte, Nat.reduceEqDiff, Nat.reduceLeDiff, Nat.reduceAdd, Nat.reduceMul, Nat.reduceSub, Nat.reduceBEq, Nat.reduceGT, Nat.reduceLT, Int.reduceLE, Int.reduceLT, Int.reduceNeg, reduceCtorEq, decide_true]
          exact fin ⟨_, _, _, _, _, st11⟩
end Go.Proofs.Ytcgejfmbhpmjfaa
