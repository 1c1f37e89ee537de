/- The laws' helper told. -/
import Derived.Test.YtcgejfmbhpmjfaaVMg
import Derived.Test.YtcgejfmbhpmjfaaVSmall
set_option linter.unusedSimpArgs false
set_option linter.unusedVariables false
set_option maxRecDepth 20000
namespace Go.V
open Go
/-- Blocks of F and of G alone have turned. -/
theorem Ch.more {F F' G : Nat → Prop} {H H' : Heap} (h : Ch F F' H H') : Ch (fun b => F b ∨ G b) (fun b => F' b ∨ G b) H H' :=
  ⟨h.size, fun b hb => by
    rcases hb with hb | hb
    · exact (h.old b hb).imp .inl id
    · exact .inl (.inr hb), fun b hb hn => h.get b hb fun hf => hn (.inl hf)⟩
theorem Grow.ch {v v' : Value} {H H' : Heap} (h : Grow v H v' H') : Ch (fun b => blk v = some b) (fun b => blk v' = some b) H H' :=
  ⟨h.but.size, fun b hb => by
    rcases h.at' with e | ⟨k, e, hk⟩
    · exact .inl (by rw [← e]; exact hb)
    · rw [e] at hb; cases hb; exact .inr hk, fun b hb hn => h.but.get b hb fun e => hn e.symm⟩
theorem hput_ch (H : Heap) (c o : Nat) (vs : List Value) : Ch (fun b => b = c) (fun b => b = c) H (V.hput H c o vs) :=
  ⟨by rw [hput_size]; exact Nat.le_refl _, fun _ h => .inl h, fun b _ hn => hput_other _ _ _ _ hn⟩
/-- Two changes beside each other. -/
theorem Ch.both {F F' G G' : Nat → Prop} {H H1 H2 : Heap} (h : Ch F F' H H1) (k : Ch G G' H1 H2) (hG : ∀ b, G b → ¬ H.size ≤ b → G b) : Ch (fun b => F b ∨ G b) (fun b => F' b ∨ G' b ∨ G b) H H2 :=
  ⟨Nat.le_trans h.size k.size, fun b hb => by
    rcases hb with hb | hb | hb
    · exact (h.old b hb).imp .inl id
    · rcases k.old b hb with e | e
      · exact .inl (.inr e)
      · exact .inr (Nat.le_trans h.size e)
    · exact .inl (.inr hb), fun b hb hn => by
    rw [k.get b (Nat.lt_of_lt_of_le hb h.size) fun e => hn (.inr e), h.get b hb fun e => hn (.inl e)]⟩
end Go.V
namespace Go.Proofs.Ytcgejfmbhpmjfaa
open Go Go.V
-- 36: pith/pithlaw11.told
-- 40: (*pith/runs.Merger).Next
-- 24: pith/api.Pair
-- 22: []api.Pair
/-- What told makes of a merger's sources and of what was told so far. -/
inductive Told (most : Nat) : List Src → List Pr → List Src → List Pr → Prop
  | stop {ss ss' : List Src} {out : List Pr} (h : NextR ss none ss') : Told most ss out ss' out
  | full {ss ss' : List Src} {out : List Pr} {p : Pr} (h : NextR ss (some p) ss') (hm : most < out.length) : Told most ss out ss' out
  | more {ss s1 ss' : List Src} {out out' : List Pr} {p : Pr} (h : NextR ss (some p) s1) (hm : out.length ≤ most) (k : Told most s1 (out ++ [p]) ss' out') : Told most ss out ss' out'
theorem Told.unique {most : Nat} {ss a b : List Src} {out x y : List Pr} (h : Told most ss out a x) (k : Told most ss out b y) : a = b ∧ x = y := by
  induction h with
  | stop h =>
    cases k with
    | stop k => exact ⟨(nextR_unique h k).2, rfl⟩
    | full k _ => exact absurd (nextR_unique h k).1 (by simp)
    | more k _ _ => exact absurd (nextR_unique h k).1 (by simp)
  | full h hm =>
    cases k with
    | stop k => exact absurd (nextR_unique h k).1 (by simp)
    | full k _ => exact ⟨(nextR_unique h k).2, rfl⟩
    | more k hm' _ => omega
  | more h hm _ ih =>
    cases k with
    | stop k => exact absurd (nextR_unique h k).1 (by simp)
    | full k hm' => omega
    | more k _ k' =>
      obtain ⟨e1, e2⟩ := nextR_unique h k
      cases e1
      subst e2
      exact ih k'
theorem nextR_len {ss ss' : List Src} {o : Option Pr} (h : NextR ss o ss') : ss'.length = ss.length ∧ ∀ j, j < ss.length → (sg ss' j).l.length ≤ (sg ss j).l.length := by
  rcases h with ⟨_, _, rfl⟩ | ⟨_, p, _, _, rfl⟩
  · exact ⟨rfl, fun _ _ => Nat.le_refl _⟩
  · refine ⟨by simp, fun j hj => ?_⟩
    rw [sg_map hj]
    unfold adv1
    split
    · simp
    · exact Nat.le_refl _
theorem nextR_less {ss ss' : List Src} {p : Pr} (h : NextR ss (some p) ss') : totS ss' < totS ss := by
  rcases h with ⟨_, h, _⟩ | ⟨_, q, hm, h, rfl⟩
  · cases h
  · cases h
    obtain ⟨s, hs, hh⟩ := hm.1
    have key : ∀ l : List Src, (∀ s ∈ l, (adv1 p s).l.length ≤ s.l.length) → (∃ s ∈ l, (adv1 p s).l.length < s.l.length) → totS (l.map (adv1 p)) < totS l := by
      intro l
      induction l with
      | nil => rintro _ ⟨s, hs, _⟩; cases hs
      | cons a l ih =>
        rintro h1 ⟨s, hs, h2⟩
        have h3 := h1 a List.mem_cons_self
        have h4 : totS (l.map (adv1 p)) ≤ totS l := by
          clear ih hs h2 h3
          induction l with
          | nil => exact Nat.le_refl _
          | cons b l ih2 =>
            have := h1 b (by simp)
            have := ih2 (fun s hs => h1 s (by
              rcases List.mem_cons.1 hs with rfl | hs
              · simp
              · simp [hs]))
            simp only [totS, List.map_cons, List.sum_cons] at *
            omega
        rcases List.mem_cons.1 hs with rfl | hs
        · simp only [totS, List.map_cons, List.sum_cons] at *
          omega
        · have := ih (fun s hs => h1 s (List.mem_cons_of_mem _ hs)) ⟨s, hs, h2⟩
          simp only [totS, List.map_cons, List.sum_cons] at *
          omega
    refine key ss (fun s _ => ?_) ⟨s, hs, ?_⟩
    · unfold adv1
      split
      · simp
      · exact Nat.le_refl _
    · unfold adv1
      rw [if_pos hh]
      match hl : s.l, hh with
      | a :: t, _ => simp
set_option maxHeartbeats 3200000 in
theorem F36 {m : Value} {ss : List Src} {F : Nat → Prop} {H : Heap} (h : Mg m ss F H) (hb : ∀ j, j < ss.length → (sg ss j).l.length ≤ 8796093020000) {v : Value} {out : List Pr} {B : Nat} (ho : Own H B 24 2 v (cp out)) (hB : B ≤ H.size) (hf : ∀ g, blk v = some g → ¬ F g) (most : Nat) (hmost : most ≤ 4096093020000) (hol : out.length ≤ most + 1) :
    Fun Try.prog 36 #[m, v, .int .i64 most] H (fun r H' => ∃ ss' out' F', Own H' B 24 2 r (cp out') ∧ Told most ss out ss' out' ∧ Mg m ss' F' H' ∧ (∀ g, blk r = some g → ¬ F' g) ∧ Ch (fun b => F b ∨ blk v = some b) (fun b => F' b ∨ blk r = some b) H H') := by
  obtain ⟨a0, c0, rfl⟩ := prs_form (prs_own ho)
  obtain ⟨M, Cb, S, lvs, hv, hp, hm0, _⟩ := id h
  subst hm0
  refine fun_of mixed (args := [_, _, _]) Try.func36 Try.ntmps36 b36 r36 rfl ?_
  simp only [go_sem, ↓reduceIte, Nat.reduceEqDiff, Nat.reduceLeDiff, Nat.reduceAdd, Nat.reduceMul, Nat.reduceSub, Nat.reduceBEq, Nat.reduceGT, Nat.reduceLT, Int.reduceLE, Int.reduceLT, Int.reduceNeg, reduceCtorEq]
  refine FunI.by (mg_next h hb) ?_
  rintro _ H1 ⟨o, s1, rfl, hn, F1, mg1, ch1⟩
  simp only [go_sem, ↓reduceIte, Nat.reduceEqDiff, Nat.reduceLeDiff, Nat.reduceAdd, Nat.reduceMul, Nat.reduceSub, Nat.reduceBEq, Nat.reduceGT, Nat.reduceLT, Int.reduceLE, Int.reduceLT, Int.reduceNeg, reduceCtorEq, pv]
  refine ⟨rfl, hcan_of push_new (by simp), ?_⟩
  rw [hput_push2]
  obtain ⟨G1, hG1⟩ : ∃ G, G = Array.push H1 (Obj.cells #[Value.int .i64 (o.getD (0, 0)).1, Value.int .i64 (o.getD (0, 0)).2] 24) := ⟨_, rfl⟩
  have y : Ext H1 G1 := by rw [hG1]; exact Ext.push _
  have hc : G1[H1.size]? = some (Obj.cells #[Value.int .i64 (o.getD (0, 0)).1, Value.int .i64 (o.getD (0, 0)).2] 24) := by rw [hG1]; exact push_new
  have hcl : H1.size < G1.size := by rw [hG1]; simp
  rw [← hG1]
  clear hG1
  have hc0 : H.size ≤ H1.size := ch1.size
  have bnd := nextR_len hn
  have hblk : ∀ g, blk (Value.slice a0 out.length c0) = some g → g < H.size := fun g hg => (ho.blk hg).2.1
  refine LoopI.byN mixed (fun n ρ H' => ∃ (o : Option Pr) (sb sc : List Src) (outc : List Pr) (w : Value) (F' : Nat → Prop), ρ 0 = .pointer (some ⟨M, 0, none⟩) ∧ ρ 1 = w ∧ ρ 2 = .int .i64 most ∧ ρ 7 = .pointer (some ⟨H1.size, 0, none⟩) ∧ ρ 8 = .bool o.isSome ∧ NextR sb o sc ∧ (∀ ss' out', Told most sb outc ss' out' → Told most ss out ss' out') ∧
    Mg (.pointer (some ⟨M, 0, none⟩)) sc F' H' ∧ Own H' B 24 2 w (cp outc) ∧ (∀ g, blk w = some g → ¬ F' g) ∧ H'[H1.size]? = some (Obj.cells #[Value.int .i64 (o.getD (0, 0)).1, Value.int .i64 (o.getD (0, 0)).2] 24) ∧ ¬ F' H1.size ∧ blk w ≠ some H1.size ∧ H1.size < H'.size ∧ outc.length ≤ most + 1 ∧ (∀ j, j < sc.length → (sg sc j).l.length ≤ 8796093020000) ∧ totS sb = n ∧
    Ch (fun b => F b ∨ blk (Value.slice a0 out.length c0) = some b) (fun b => F' b ∨ blk w = some b) H H') (totS ss) ?_ ?_
  · refine ⟨o, ss, s1, out, _, F1, by simp only [go_sem, ↓reduceIte, Nat.reduceEqDiff, Nat.reduceLeDiff, Nat.reduceAdd, Nat.reduceMul, Nat.reduceSub, Nat.reduceBEq, Nat.reduceGT, Nat.reduceLT, Int.reduceLE, Int.reduceLT, Int.reduceNeg, reduceCtorEq], by simp only [go_sem, ↓reduceIte, Nat.reduceEqDiff, Nat.reduceLeDiff, Nat.reduceAdd, Nat.reduceMul, Nat.reduceSub, Nat.reduceBEq, Nat.reduceGT, Nat.reduceLT, Int.reduceLE, Int.reduceLT, Int.reduceNeg, reduceCtorEq], by simp only [go_sem, ↓reduceIte, Nat.reduceEqDiff, Nat.reduceLeDiff, Nat.reduceAdd, Nat.reduceMul, Nat.reduceSub, Nat.reduceBEq, Nat.reduceGT, Nat.reduceLT, Int.reduceLE, Int.reduceLT, Int.reduceNeg, reduceCtorEq], by simp only [go_sem, ↓reduceIte, Nat.reduceEqDiff, Nat.reduceLeDiff, Nat.reduceAdd, Nat.reduceMul, Nat.reduceSub, Nat.reduceBEq, Nat.reduceGT, Nat.reduceLT, Int.reduceLE, Int.reduceLT, Int.reduceNeg, reduceCtorEq], by simp only [go_sem, ↓reduceIte, Nat.reduceEqDiff, Nat.reduceLeDiff, Nat.reduceAdd, Nat.reduceMul, Nat.reduceSub, Nat.reduceBEq, Nat.reduceGT, Nat.reduceLT, Int.reduceLE, Int.reduceLT, Int.reduceNeg, reduceCtorEq], hn, fun _ _ h => h, mg1.ext y, (ho.keep fun g hg => ch1.get g (hblk g hg) (hf g hg)).ext y, fun g hg => ch1.notin (hblk g hg) (hf g hg), hc, fun hh => Nat.lt_irrefl _ (mg1.lt hh), fun hh => by have := hblk _ hh; omega, hcl, hol, fun j hj => ?_, rfl, ?_⟩
    · rw [bnd.1] at hj
      exact Nat.le_trans (bnd.2 j hj) (hb j hj)
    · exact (ch1.trans y.ch).more
  clear hc y hn mg1 ch1 bnd ho hcl
  rintro n ρ H2 J ⟨o, sb, sc, outc, w, F2, e0, e1, e2, e7, e8, hn, hT, mg, ow, hwf, hc, hcF, hwc, hcl, hol2, hb2, hn0, ch⟩ hJ
  obtain ⟨a2, c2, rfl⟩ := prs_form (prs_own ow)
  have hs2 : H.size ≤ H2.size := ch.size
  cases o with
  | none =>
    simp only [go_sem, ↓reduceIte, Nat.reduceEqDiff, Nat.reduceLeDiff, Nat.reduceAdd, Nat.reduceMul, Nat.reduceSub, Nat.reduceBEq, Nat.reduceGT, Nat.reduceLT, Int.reduceLE, Int.reduceLT, Int.reduceNeg, reduceCtorEq, c36_L0, e0, e1, e2, e7, e8, Option.isSome_none]
    exact ⟨sc, outc, F2, ow, hT _ _ (.stop hn), mg, hwf, ch⟩
  | some p =>
    by_cases hfull : outc.length ≤ most
    · have i1 : (outc.length : Int) ≤ most := by omega
      have g1 : hget H2 H1.size 0 = some (.int .i64 p.1) := by rw [hget_cells hc]; rfl
      have g2 : hget H2 H1.size 1 = some (.int .i64 p.2) := by rw [hget_cells hc]; rfl
      simp only [go_sem, ↓reduceIte, Nat.reduceEqDiff, Nat.reduceLeDiff, Nat.reduceAdd, Nat.reduceMul, Nat.reduceSub, Nat.reduceBEq, Nat.reduceGT, Nat.reduceLT, Int.reduceLE, Int.reduceLT, Int.reduceNeg, reduceCtorEq, c36_L0, e0, e1, e2, e7, e8, i1, g1, g2, Option.isSome_some, Option.bind_some]
      refine RunI.by (append_lit ty22 ty24 rfl (by decide) ow (ys := [.int .i64 p.1, .int .i64 p.2]) (m := 1) rfl rfl (n := outc.length + 1) (by rw [cp_len]; simp; omega) (by show (outc.length + 1) * 16 ≤ _; omega) (by omega) (Nat.le_trans hB hs2)) ?_
      rintro w3 H3 ⟨ow3, gr, _⟩
      rw [show cp outc ++ [.int .i64 p.1, .int .i64 p.2] = cp (outc ++ [p]) by rw [cp_app]; rfl] at ow3
      have chg := gr.ch
      obtain ⟨mg3, hwf3⟩ := mg.keep chg (fun b hb hh => hwf b hh hb)
      have hc3 := chg.cell hc hwc
      have hwc3 : ¬ blk w3 = some H1.size := chg.notin hcl hwc
      have hcl3 := Nat.lt_of_lt_of_le hcl chg.size
      simp only [go_sem, ↓reduceIte, Nat.reduceEqDiff, Nat.reduceLeDiff, Nat.reduceAdd, Nat.reduceMul, Nat.reduceSub, Nat.reduceBEq, Nat.reduceGT, Nat.reduceLT, Int.reduceLE, Int.reduceLT, Int.reduceNeg, reduceCtorEq, e0, e2, e7, e8]
      refine FunI.by (mg_next mg3 hb2) ?_
      rintro _ H4 ⟨o4, sd, rfl, hn4, F4, mg4, ch4⟩
      have hcF4 := ch4.notin hcl3 hcF
      have hc4 := ch4.cell hc3 hcF
      have hcl4 := Nat.lt_of_lt_of_le hcl3 ch4.size
      have hw3l : ∀ g, blk w3 = some g → g < H3.size := fun g hg => (ow3.blk hg).2.1
      have hw3n : ∀ g, blk w3 = some g → ¬ F2 g := fun g hg hh => hwf3 g hh hg
      have ow4 := ow3.keep fun g hg => ch4.get g (hw3l g hg) (hw3n g hg)
      have hwf4 : ∀ g, blk w3 = some g → ¬ F4 g := fun g hg => ch4.notin (hw3l g hg) (hw3n g hg)
      obtain ⟨can, hc5, _, _⟩ := cell2 (x := .int .i64 (o4.getD (0, 0)).1) (y := .int .i64 (o4.getD (0, 0)).2) hc4
      simp only [go_sem, ↓reduceIte, Nat.reduceEqDiff, Nat.reduceLeDiff, Nat.reduceAdd, Nat.reduceMul, Nat.reduceSub, Nat.reduceBEq, Nat.reduceGT, Nat.reduceLT, Int.reduceLE, Int.reduceLT, Int.reduceNeg, reduceCtorEq, pv, e0, e2, e7, can]
      refine ⟨rfl, ?_⟩
      have chp := hput_ch H4 H1.size 0 [.int .i64 (o4.getD (0, 0)).1, .int .i64 (o4.getD (0, 0)).2]
      obtain ⟨mg5, _⟩ := mg4.keep chp (fun b hb hh => hcF4 (hh ▸ hb))
      have ow5 := ow4.keep (H' := V.hput H4 H1.size 0 [.int .i64 (o4.getD (0, 0)).1, .int .i64 (o4.getD (0, 0)).2]) fun g hg => hput_other _ _ _ _ (fun e => hwc3 (e ▸ hg))
      have bnd := nextR_len hn4
      refine Hold.mk (hJ _ _ _ (by rw [← hn0]; exact nextR_less hn) ⟨o4, sc, sd, outc ++ [p], w3, F4, by simp only [go_sem, ↓reduceIte, Nat.reduceEqDiff, Nat.reduceLeDiff, Nat.reduceAdd, Nat.reduceMul, Nat.reduceSub, Nat.reduceBEq, Nat.reduceGT, Nat.reduceLT, Int.reduceLE, Int.reduceLT, Int.reduceNeg, reduceCtorEq, e0], by simp only [go_sem, ↓reduceIte, Nat.reduceEqDiff, Nat.reduceLeDiff, Nat.reduceAdd, Nat.reduceMul, Nat.reduceSub, Nat.reduceBEq, Nat.reduceGT, Nat.reduceLT, Int.reduceLE, Int.reduceLT, Int.reduceNeg, reduceCtorEq], by simp only [go_sem, ↓reduceIte, Nat.reduceEqDiff, Nat.reduceLeDiff, Nat.reduceAdd, Nat.reduceMul, Nat.reduceSub, Nat.reduceBEq, Nat.reduceGT, Nat.reduceLT, Int.reduceLE, Int.reduceLT, Int.reduceNeg, reduceCtorEq, e2], by simp only [go_sem, ↓reduceIte, Nat.reduceEqDiff, Nat.reduceLeDiff, Nat.reduceAdd, Nat.reduceMul, Nat.reduceSub, Nat.reduceBEq, Nat.reduceGT, Nat.reduceLT, Int.reduceLE, Int.reduceLT, Int.reduceNeg, reduceCtorEq, e7], by simp only [go_sem, ↓reduceIte, Nat.reduceEqDiff, Nat.reduceLeDiff, Nat.reduceAdd, Nat.reduceMul, Nat.reduceSub, Nat.reduceBEq, Nat.reduceGT, Nat.reduceLT, Int.reduceLE, Int.reduceLT, Int.reduceNeg, reduceCtorEq], hn4, fun _ _ h => hT _ _ (.more hn hfull h), mg5, ow5, hwf4, hc5, hcF4, hwc3, by rw [hput_size]; exact hcl4, by simp; omega, fun j hj => ?_, rfl, ?_⟩)
      · rw [bnd.1] at hj
        exact Nat.le_trans (bnd.2 j hj) (hb2 j hj)
      · refine Ch.hput ?_ hc0
        refine ⟨Nat.le_trans hs2 (Nat.le_trans chg.size ch4.size), fun b hb => ?_, fun b hbl hnn => ?_⟩
        · rcases hb with hb | hb
          · rcases ch4.old b hb with e | e
            · exact ch.old b (.inl e)
            · exact .inr (Nat.le_trans (Nat.le_trans hs2 chg.size) e)
          · rcases chg.old b hb with e | e
            · exact ch.old b (.inr e)
            · exact .inr (Nat.le_trans hs2 e)
        · have n1 := ch.notin hbl hnn
          rw [ch4.get b (Nat.lt_of_lt_of_le hbl (Nat.le_trans hs2 chg.size)) (fun e => n1 (.inl e)), chg.get b (Nat.lt_of_lt_of_le hbl hs2) (fun e => n1 (.inr e)), ch.get b hbl hnn]
    · have i1 : ¬ (outc.length : Int) ≤ most := by omega
      simp only [go_sem, ↓reduceIte, Nat.reduceEqDiff, Nat.reduceLeDiff, Nat.reduceAdd, Nat.reduceMul, Nat.reduceSub, Nat.reduceBEq, Nat.reduceGT, Nat.reduceLT, Int.reduceLE, Int.reduceLT, Int.reduceNeg, reduceCtorEq, c36_L0, e0, e1, e2, e7, e8, i1, Option.isSome_some]
      exact ⟨sc, outc, F2, ow, hT _ _ (.full hn (by omega)), mg, hwf, ch⟩
end Go.Proofs.Ytcgejfmbhpmjfaa
