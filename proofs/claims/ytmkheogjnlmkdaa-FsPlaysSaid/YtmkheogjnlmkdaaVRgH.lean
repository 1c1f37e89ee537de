/- The reference: Crash. -/
import Derived.Test.YtmkheogjnlmkdaaVRgF
set_option linter.unusedSimpArgs false
set_option linter.unusedVariables false
set_option maxRecDepth 20000
namespace Go.Proofs.Ytmkheogjnlmkdaa
open Go Go.V
-- 79: (*pith/pithref8.FS).Crash
-- 88: (*pith/pithref8.FS).left
-- 100: pithref8.FS
-- 5: uint8
-- 3: int
-- 125: pithref8.Entry
-- 122: []pithref8.Entry
-- 129: pithref8.Data
-- 97: []pithref8.Data
-- 44: pith/api.File
section
variable {H H' : Heap} {F F' : Nat → Prop} {b : Nat} {fv dv pv fv' dv' pv' : Value} {P P' : List (Value × Dt)} {Q Q' : List (Value × List En)} {r r0 r' : RSt}
/-- A file more, with bytes that lie in a block of their own. -/
theorem RFsP.setG (h : RFsP H F b fv dv pv P Q r) {w : Value} {d : Dt} {B : Nat} (hb : But (blk fv) H H') (o : Own H' 0 129 2 fv' (datC (P ++ [(w, d)]))) (ha : blk fv' = blk fv ∨ ∃ k, blk fv' = some k ∧ H.size ≤ k) (ow : Own H B 5 1 w (d.1.map (.int .u8))) (hap : ∀ p ∈ P, Apart p.1 w) :
    hcan H' b 1 1 ∧ RFsP (hput H' b 1 [fv']) (fun g => Gr F H H' g ∨ blk w = some g) b fv' dv pv (P ++ [(w, d)]) Q { r with files := r.files ++ [d] } ∧
      ∀ {H0 : Heap} {F0 : Nat → Prop}, Ch F0 F H0 H → H0.size ≤ B → Ch F0 (fun g => Gr F H H' g ∨ blk w = some g) H0 (hput H' b 1 [fv']) := by
  have hg : ∀ g, F g → (Gr F H H' g ∨ blk w = some g) := fun g hg => .inl (.inl hg)
  have hw : ∀ p ∈ P ++ [(w, d)], Own H' 0 5 1 p.1 (p.2.1.map (.int .u8)) ∧ ∀ g, blk p.1 = some g → (Gr F H H' g ∨ blk w = some g) := fun p hp => by
    rcases List.mem_append.1 hp with hp | hp
    · exact ⟨(h.hw p hp).1.byTag h.hF hb (by decide), fun g k => hg g ((h.hw p hp).2 g k)⟩
    · simp only [List.mem_singleton] at hp
      subst hp
      exact ⟨(ow.mono (Nat.zero_le _)).byTag h.hF hb (by decide), fun g k => .inr k⟩
  have hap : ((P ++ [(w, d)]).map (·.1)).Pairwise Apart := by
    rw [List.map_append, List.pairwise_append]
    refine ⟨h.ap, by simp, fun u hu w' hw' => ?_⟩
    simp only [List.map_cons, List.map_nil, List.mem_singleton] at hw'
    subst hw'
    obtain ⟨p, hp, rfl⟩ := List.mem_map.1 hu
    exact hap p hp
  have hlt : ∀ g, (Gr F H H' g ∨ blk w = some g) → g < H'.size := fun g hg => by
    rcases hg with hg | hg
    · exact h.lt' hb.size g hg
    · exact Nat.lt_of_lt_of_le (ow.blk hg).2.1 hb.size
  obtain ⟨h1, h2⟩ := RFsP.field (r := { r with files := r.files ++ [d] }) (F := fun g => Gr F H H' g ∨ blk w = some g) (but_tag hb h.hF h.hM (by decide)) (by rw [List.map_append, h.eP]; rfl) h.eQ o hw hap
    (h.hD.byTag h.hF hb (by decide)) (fun p hp => ⟨(h.hv p hp).1.byTag h.hF hb (by decide), fun g k => hg g ((h.hv p hp).2 g k)⟩) (h.hP.byTag h.hF hb (by decide)) (hg _ h.fb) (fun g k => .inl (grown_in h.ff ha (fun g k => (o.blk k).2.1) g k)) (fun g k => hg g (h.fd g k)) (fun g k => hg g (h.fp g k)) hlt 1 fv' (by omega) rfl
  refine ⟨h1, h2, fun {H0 F0} c hB => ⟨by rw [hput_size]; exact Nat.le_trans c.size hb.size, fun g hg => ?_, fun g hg hn => ?_⟩⟩
  · rcases hg with (hg | hg) | hg
    · exact c.old g hg
    · exact .inr (Nat.le_trans c.size hg.1)
    · exact .inr (Nat.le_trans hB (ow.blk hg).1)
  · have hf : ∀ k, F k → k ≠ g := fun k hk e => by
      subst e
      rcases c.old _ hk with e | e
      · exact hn e
      · omega
    rw [hput_other _ _ _ _ (fun e => hf b h.fb e.symm)]
    rw [hb.get g (Nat.lt_of_lt_of_le hg c.size) (fun e => hf g (h.ff g e.symm) rfl)]
    exact c.get g hg hn
theorem afterR_len (dir : Int) : ∀ (l : List (Nat × Nm)) (i : Nat) (D : List En), (afterR D dir l i).length ≤ D.length + l.length
  | [], _, D => Nat.le_refl _
  | p :: l, i, D => by
    have := afterR_len dir l (i + 1) (if bitI dir i then toldE D p.1 p.2 else D)
    have h2 := toldE_len D p.1 p.2
    show (afterR (if bitI dir i then toldE D p.1 p.2 else D) dir l (i + 1)).length ≤ _
    have key : (if bitI dir i then toldE D p.1 p.2 else D).length ≤ D.length + 1 := by split <;> omega
    rw [List.length_cons]
    omega
theorem leftR_len (ok : OkR r) (dir : Int) (cuts : List Int) : (leftR r dir cuts).length ≤ 2000000000000 := by
  have h1 := afterR_len dir r.pend 0 (r.dirs.getD 0 [])
  have h2 : (leftR r dir cuts).length = (leftD r dir).length := by unfold leftR; simp
  have hD0 : r.dirs.getD 0 [] ∈ r.dirs := by rw [List.getD_eq_getElem?_getD, List.getElem?_eq_getElem ok.dne]; exact List.getElem_mem _
  have h3 := ok.el _ hD0
  have h4 := ok.pl
  rw [h2]
  unfold leftD
  omega
theorem FilesO.keepB {B : Nat} {v : Value} {L : List (Value × Fl)} (h : FilesO H B v L) (hk : ∀ g, B ≤ g → g < H.size → H'[g]? = H[g]?) : FilesO H' B v L :=
  ⟨h.own.keep fun g hg => hk g (h.own.blk hg).1 (h.own.blk hg).2.1, fun p hp => (h.each p hp).keep fun g hg => hk g ((h.each p hp).blk hg).1 ((h.each p hp).blk hg).2.1, h.ap⟩
set_option maxHeartbeats 3200000 in
theorem F79 (h : RFsP H F b fv dv pv P Q r) (ok : OkR r) (dir : Int) {v : Value} {cuts : List Int} (hv : Ints H 3 .i64 v cuts) :
    Fun Try.prog 79 #[ptrOf b, .int .i64 dir, v] H (fun _ H' => ∃ F', RFsH H' F' b (crashR r dir cuts) ∧ Ch F F' H H') := by
  obtain ⟨av, cv, rfl⟩ := hv.form
  refine fun_of mixed (args := [_, _, _]) Try.func79 Try.ntmps79 b79 r79 rfl ?_
  simp only [go_sem, ↓reduceIte, Nat.reduceEqDiff, Nat.reduceLeDiff, Nat.reduceAdd, Nat.reduceMul, Nat.reduceSub, Nat.reduceBEq, Nat.reduceGT, Nat.reduceLT, Int.reduceLE, Int.reduceLT, Int.reduceNeg, reduceCtorEq, ptrOf]
  refine FunI.by (F88 h ok dir hv) ?_
  rintro u H1 ⟨L, hL, oL, x1⟩
  have h1 := h.ext x1
  have hbs : b < H.size := h.lt b h.fb
  obtain ⟨c1, h2⟩ := RFsP.field (r := { r with files := [] }) (F := F) (P := []) (fv := .slice none 0 0) h1.hM rfl h1.eQ Own.nil (by simp) (by simp) h1.hD h1.hv h1.hP h1.fb (fun g hg => by cases hg) h1.fd h1.fp h1.lt 1 (.slice none 0 0) (by omega) rfl
  have oL2 : FilesO (hput H1 b 1 [.slice none 0 0]) H.size u L := oL.keepB fun g hg _ => hput_other _ _ _ _ (by omega)
  have ch2 : Ch F F H (hput H1 b 1 [.slice none 0 0]) := ⟨by rw [hput_size]; exact x1.size, fun g hg => .inl hg, fun g hg hn => by
    rw [hput_other _ _ _ _ (fun e => hn (by rw [e]; exact h.fb))]
    exact x1.get g hg⟩
  have hs2 : (hput H1 b 1 [.slice none 0 0]).size = H1.size := hput_size _ _ _ _
  simp only [go_sem, ↓reduceIte, Nat.reduceEqDiff, Nat.reduceLeDiff, Nat.reduceAdd, Nat.reduceMul, Nat.reduceSub, Nat.reduceBEq, Nat.reduceGT, Nat.reduceLT, Int.reduceLE, Int.reduceLT, Int.reduceNeg, reduceCtorEq, ptrOf, c1]
  obtain ⟨H2, hH2⟩ : ∃ H2, H2 = hput H1 b 1 [.slice none 0 0] := ⟨_, rfl⟩
  rw [← hH2] at h2 oL2 ch2 hs2
  rw [← hH2]
  clear hH2 c1 h1 oL
  have hlen : L.length = (leftR r dir cuts).length := by rw [← hL, List.length_map]
  have hbig : L.length ≤ 2000000000000 := by rw [hlen]; exact leftR_len ok dir cuts
  obtain ⟨LL, hLL⟩ : ∃ LL, LL = leftR r dir cuts := ⟨_, rfl⟩
  have ecr : crashR r dir cuts = { r with files := crashF LL, dirs := [crashD LL], pend := [], off := false, armed := 0 } := by rw [hLL]; rfl
  rw [← hLL] at hL hlen
  have rp : ∀ {G : Heap}, FilesO G H.size u L → RecP fileK G (fun _ => True) 44 5 u L := fun o => ⟨o.own.sl, fun p hp => ⟨(o.each p hp).sl, fun _ _ => trivial⟩, fun _ _ => trivial⟩
  obtain ⟨ua, ucap, rfl⟩ := (rp oL2).form
  refine ⟨rfl, ?_⟩
  refine LoopI.by mixed (fun ρ H' => ∃ (i : Nat) (dl fv' : Value) (P' : List (Value × Dt)) (F' : Nat → Prop), ρ 0 = ptrOf b ∧ ρ 6 = .slice ua L.length ucap ∧ ρ 7 = dl ∧ ρ 8 = .int .i64 i ∧ i ≤ L.length ∧
    RFsP H' F' b fv' dv pv P' Q { r with files := crashF (LL.take i) } ∧ P'.map (·.1) = (L.take i).map (·.1) ∧ Own H' H1.size 125 2 dl (entC (crashD (LL.take i))) ∧ (∀ g, blk dl = some g → ¬ F' g) ∧ FilesO H' H.size (.slice ua L.length ucap) L ∧ Ch F F' H H' ∧ H1.size ≤ H'.size) (fun ρ _ => L.length - (iof (ρ 8)).toNat) ?_ ?_
  · exact ⟨0, _, _, [], F, by simp only [go_sem, ↓reduceIte, Nat.reduceEqDiff, Nat.reduceLeDiff, Nat.reduceAdd, Nat.reduceMul, Nat.reduceSub, Nat.reduceBEq, Nat.reduceGT, Nat.reduceLT, Int.reduceLE, Int.reduceLT, Int.reduceNeg, reduceCtorEq, ptrOf], by simp only [go_sem, ↓reduceIte, Nat.reduceEqDiff, Nat.reduceLeDiff, Nat.reduceAdd, Nat.reduceMul, Nat.reduceSub, Nat.reduceBEq, Nat.reduceGT, Nat.reduceLT, Int.reduceLE, Int.reduceLT, Int.reduceNeg, reduceCtorEq], by simp only [go_sem, ↓reduceIte, Nat.reduceEqDiff, Nat.reduceLeDiff, Nat.reduceAdd, Nat.reduceMul, Nat.reduceSub, Nat.reduceBEq, Nat.reduceGT, Nat.reduceLT, Int.reduceLE, Int.reduceLT, Int.reduceNeg, reduceCtorEq] <;> rfl, by simp only [go_sem, ↓reduceIte, Nat.reduceEqDiff, Nat.reduceLeDiff, Nat.reduceAdd, Nat.reduceMul, Nat.reduceSub, Nat.reduceBEq, Nat.reduceGT, Nat.reduceLT, Int.reduceLE, Int.reduceLT, Int.reduceNeg, reduceCtorEq] <;> rfl, by omega, h2, by simp, Own.nil, fun g hg => (by cases hg), oL2, ch2, by omega⟩
  rintro ρ G ⟨i, dl, fv1, P1, F1, e0, e6, e7, e8, hi, g1, hPm, oD, hDn, oG, chG, hsG⟩
  by_cases hlt : i < L.length
  · obtain ⟨⟨w, x⟩, hLi⟩ : ∃ p, L[i]? = some p := ⟨_, List.getElem?_eq_getElem hlt⟩
    have hLLi : LL[i]? = some x := by rw [← hL, List.getElem?_map, hLi]; rfl
    have htk : LL.take (i + 1) = LL.take i ++ [x] := by rw [List.take_add_one, hLLi]; rfl
    have htl : (LL.take i).length = i := by rw [List.length_take]; omega
    obtain ⟨bu, ou, rfl⟩ := (rp oG).at hlt
    obtain ⟨_, gg0, gi, _⟩ := (rp oG).get hLi
    have gs : hget G bu (ou + i * 2) = some (.string x.1) := gg0 0 (by decide)
    have ow := oG.each _ (List.mem_of_getElem? hLi)
    obtain ⟨aw, lw, cw, rfl⟩ := Sl.form ow.sl
    have hlw : x.2.length = lw := by have := Sl.length ow.sl; simpa using this
    have c0 : (0 : Int) ≤ i := by omega
    have c2 : (i : Int) < L.length := by omega
    have w1 : IntKind.i64.wrap ((i : Int) + 1) = ((i + 1 : Nat) : Int) := by rw [w64_id (by omega) (by omega)]; omega
    simp only [go_sem, ↓reduceIte, Nat.reduceEqDiff, Nat.reduceLeDiff, Nat.reduceAdd, Nat.reduceMul, Nat.reduceSub, Nat.reduceBEq, Nat.reduceGT, Nat.reduceLT, Int.reduceLE, Int.reduceLT, Int.reduceNeg, reduceCtorEq, c79_L0, e0, e6, e7, e8, ptrOf, c0, c2, Int.toNat_natCast, gs]
    have hDl : (crashD (LL.take i)).length = i := by rw [crashD_len, htl]
    refine RunI.by (append_lit ty122 ty125 rfl (by decide) oD (ys := [_, _]) (m := 1) rfl rfl (n := i + 1) (by rw [entC_len, hDl]; simp; omega) (by omega) (by omega) hsG) ?_
    rintro dl2 G2 ⟨oD2, gr2, _⟩
    have hbD : ∀ g, F1 g → G2[g]? = G[g]? := fun g hg => gr2.but.get g (g1.lt g hg) fun e => hDn g e.symm hg
    have g2 := g1.keep gr2.but.size hbD
    have oG2 : FilesO G2 H.size (.slice (some ⟨bu, ou, none⟩) L.length ucap) L := ⟨oG.own.byTag oD gr2.but (by decide), fun p hp => (oG.each p hp).byTag oD gr2.but (by decide), oG.ap⟩
    obtain ⟨_, gg1, gi2, _⟩ := (rp oG2).get hLi
    have gd : hget G2 bu (ou + i * 2 + 1) = some (.slice aw lw cw) := gg1 1 (by decide)
    obtain ⟨q0, q1, q2, q3, q4, q5, q6⟩ := g2.get
    simp only [go_sem, ↓reduceIte, Nat.reduceEqDiff, Nat.reduceLeDiff, Nat.reduceAdd, Nat.reduceMul, Nat.reduceSub, Nat.reduceBEq, Nat.reduceGT, Nat.reduceLT, Int.reduceLE, Int.reduceLT, Int.reduceNeg, reduceCtorEq, e0, e6, e8, ptrOf, c0, c2, Int.toNat_natCast, q1, gd, w1]
    have hP1 : P1.length = i := by have := congrArg List.length hPm; rw [List.length_map, List.length_map, List.length_take] at this; omega
    have ow2 := oG2.each _ (List.mem_of_getElem? hLi)
    refine ⟨Ext.push _, ?_⟩
    refine RunI.by (append_lit ty97 ty129 rfl (by decide) g2.hF (ys := [_, _]) (m := 1) rfl rfl (n := i + 1) (by rw [datC_len, hP1]; simp; omega) (by omega) (by omega) (Nat.zero_le _)) ?_
    rintro fv2 G3 ⟨o3, gr3, _⟩
    have hap : ∀ p ∈ P1, Apart p.1 (.slice aw lw cw) := fun p hp => by
      have h1 : p.1 ∈ (L.take i).map (·.1) := by rw [← hPm]; exact List.mem_map.2 ⟨p, hp, rfl⟩
      have hsplit : L = L.take i ++ (.slice aw lw cw, x) :: L.drop (i + 1) := by
        rw [List.getElem?_eq_getElem hlt, Option.some.injEq] at hLi
        rw [← hLi, ← List.drop_eq_getElem_cons hlt, List.take_append_drop]
      have h2 := oG.ap
      rw [hsplit, List.map_append, List.pairwise_append] at h2
      exact h2.2.2 _ h1 _ (by simp)
    obtain ⟨p1, g3, cc⟩ := g2.setG (d := (x.2, lw)) (B := H.size) gr3.but (by rw [datC_snoc]; exact o3) gr3.at' ow2 hap
    obtain ⟨af, lf, cf, rfl⟩ := Sl.form o3.sl
    simp only [go_sem, ↓reduceIte, Nat.reduceEqDiff, Nat.reduceLeDiff, Nat.reduceAdd, Nat.reduceMul, Nat.reduceSub, Nat.reduceBEq, Nat.reduceGT, Nat.reduceLT, Int.reduceLE, Int.reduceLT, Int.reduceNeg, reduceCtorEq, p1, e8, w1]
    refine ⟨rfl, ?_⟩
    have hdl2 : ∀ g, blk dl2 = some g → ¬ F1 g ∧ g < G2.size := fun g hg => by
      refine ⟨fun hf => ?_, (oD2.blk hg).2.1⟩
      rcases gr2.at' with e | ⟨k, e, hk⟩
      · exact hDn g (by rw [← e]; exact hg) hf
      · rw [e] at hg; cases hg
        have := g1.lt _ hf; omega
    have ch2' : Ch F F1 H G2 := ⟨Nat.le_trans chG.size gr2.but.size, chG.old, fun g hg hn => (gr2.but.get g (Nat.lt_of_lt_of_le hg chG.size) (fun e => by have := (oD.blk e.symm).1; have := x1.size; omega)).trans (chG.get g hg hn)⟩
    refine ⟨Hold.mk ⟨i + 1, dl2, .slice af lf cf, P1 ++ [(.slice aw lw cw, (x.2, lw))], (fun g => Gr F1 G2 G3 g ∨ blk (.slice aw lw cw) = some g), by simp only [go_sem, ↓reduceIte, Nat.reduceEqDiff, Nat.reduceLeDiff, Nat.reduceAdd, Nat.reduceMul, Nat.reduceSub, Nat.reduceBEq, Nat.reduceGT, Nat.reduceLT, Int.reduceLE, Int.reduceLT, Int.reduceNeg, reduceCtorEq, e0, ptrOf], by simp only [go_sem, ↓reduceIte, Nat.reduceEqDiff, Nat.reduceLeDiff, Nat.reduceAdd, Nat.reduceMul, Nat.reduceSub, Nat.reduceBEq, Nat.reduceGT, Nat.reduceLT, Int.reduceLE, Int.reduceLT, Int.reduceNeg, reduceCtorEq, e6], by simp only [go_sem, ↓reduceIte, Nat.reduceEqDiff, Nat.reduceLeDiff, Nat.reduceAdd, Nat.reduceMul, Nat.reduceSub, Nat.reduceBEq, Nat.reduceGT, Nat.reduceLT, Int.reduceLE, Int.reduceLT, Int.reduceNeg, reduceCtorEq], by simp only [go_sem, ↓reduceIte, Nat.reduceEqDiff, Nat.reduceLeDiff, Nat.reduceAdd, Nat.reduceMul, Nat.reduceSub, Nat.reduceBEq, Nat.reduceGT, Nat.reduceLT, Int.reduceLE, Int.reduceLT, Int.reduceNeg, reduceCtorEq], by omega, ?_, ?_, ?_, ?_, ?_, cc ch2' (Nat.le_refl _), ?_⟩, by omega⟩
    · have e9 : crashF (LL.take (i + 1)) = crashF (LL.take i) ++ [(x.2, lw)] := by rw [htk, crashF_snoc, hlw]
      rw [e9]
      exact g3
    · rw [List.map_append, hPm, List.take_add_one, hLi, List.map_append]; rfl
    · have e9 : entC (crashD (LL.take (i + 1))) = entC (crashD (LL.take i)) ++ [.string x.1, .int .i64 i] := by rw [htk, crashD_snoc, entC_snoc, htl]
      rw [e9]
      refine (oD2.byTag g2.hF gr3.but (by decide)).keep fun g hg => ?_
      exact hput_other _ _ _ _ fun e => (hdl2 g hg).1 (by rw [e]; exact g1.fb)
    · intro g hg hF
      obtain ⟨k1, k2⟩ := hdl2 g hg
      rcases hF with (hF | hF) | hF
      · exact k1 hF
      · omega
      · obtain ⟨_, _, c, hc⟩ := oD2.blk hg
        obtain ⟨_, _, c', hc'⟩ := ow2.blk hF
        rw [hc] at hc'
        cases hc'
    · have : FilesO G3 H.size (.slice (some ⟨bu, ou, none⟩) L.length ucap) L := ⟨oG2.own.byTag g2.hF gr3.but (by decide), fun p hp => (oG2.each p hp).byTag g2.hF gr3.but (by decide), oG2.ap⟩
      exact this.keepB fun g hg _ => hput_other _ _ _ _ (by omega)
    · rw [hput_size]; exact Nat.le_trans hsG (Nat.le_trans gr2.but.size gr3.but.size)
  · have z2 : ¬ (i : Int) < L.length := by omega
    have : i = L.length := by omega
    subst this
    have hall : LL.take L.length = LL := by rw [hlen]; exact List.take_length
    rw [hall] at g1 oD
    obtain ⟨q0, q1, q2, q3, q4, q5, q6⟩ := g1.get
    have ev := Sl.form oD.sl
    obtain ⟨va, vl, vc, rfl⟩ := ev
    obtain ⟨h2g, c2g⟩ := g1.grow (Ext.push (.cells #[Value.slice va vl vc] 122))
    have od : Own (G.push (.cells #[Value.slice va vl vc] 122)) 0 122 1 (.slice (some ⟨G.size, 0, none⟩) 1 1) [Value.slice va vl vc] := .inr ⟨G.size, 1, 1, _, rfl, Nat.zero_le _, push_new, Nat.le_refl _, by decide, rfl, rfl, rfl⟩
    have up : ∀ g, Gr F1 G (G.push (.cells #[Value.slice va vl vc] 122)) g → Gr F1 G (G.push (.cells #[Value.slice va vl vc] 122)) g ∨ blk (Value.slice va vl vc) = some g := fun g hg => .inl hg
    obtain ⟨p3, h3⟩ := RFsP.field (F := fun g => Gr F1 G (G.push (.cells #[Value.slice va vl vc] 122)) g ∨ blk (Value.slice va vl vc) = some g) (r := { r with files := crashF LL, dirs := [crashD LL] }) (Q := [(Value.slice va vl vc, crashD LL)]) h2g.hM h2g.eP rfl h2g.hF (fun p hp => ⟨(h2g.hw p hp).1, fun g hg => up g ((h2g.hw p hp).2 g hg)⟩) h2g.ap od (fun q hq => by
      simp only [List.mem_singleton] at hq
      subst hq
      exact ⟨(oD.ext (Ext.push _)).mono (Nat.zero_le _), fun g hg => .inr hg⟩) h2g.hP (up _ h2g.fb) (fun g hg => up g (h2g.ff g hg)) (fun g hg => by cases hg; exact .inl (.inr ⟨Nat.le_refl _, by simp⟩)) (fun g hg => up g (h2g.fp g hg)) (fun g hg => by
        rcases hg with hg | hg
        · exact h2g.lt g hg
        · exact Nat.lt_of_lt_of_le (oD.blk hg).2.1 (by simp)) 2 _ (by omega) rfl
    obtain ⟨p4, h4⟩ := RFsP.field (r := { r with files := crashF LL, dirs := [crashD LL], pend := [] }) (pv := .slice none 0 0) h3.hM h3.eP h3.eQ h3.hF h3.hw h3.ap h3.hD h3.hv Own.nil h3.fb h3.ff h3.fd (fun g hg => by cases hg) h3.lt 3 _ (by omega) rfl
    obtain ⟨p5, h5⟩ := RFsP.field (r := { r with files := crashF LL, dirs := [crashD LL], pend := [], off := false }) h4.hM h4.eP h4.eQ h4.hF h4.hw h4.ap h4.hD h4.hv h4.hP h4.fb h4.ff h4.fd h4.fp h4.lt 4 (.bool false) (by omega) rfl
    obtain ⟨p6, h6⟩ := RFsP.field (r := { r with files := crashF LL, dirs := [crashD LL], pend := [], off := false, armed := 0 }) h5.hM h5.eP h5.eQ h5.hF h5.hw h5.ap h5.hD h5.hv h5.hP h5.fb h5.ff h5.fd h5.fp h5.lt 5 (.int .i64 0) (by omega) rfl
    simp only [go_sem, ↓reduceIte, Nat.reduceEqDiff, Nat.reduceLeDiff, Nat.reduceAdd, Nat.reduceMul, Nat.reduceSub, Nat.reduceBEq, Nat.reduceGT, Nat.reduceLT, Int.reduceLE, Int.reduceLT, Int.reduceNeg, reduceCtorEq, c79_L0, e0, e6, e7, e8, ptrOf, z2, p3, p4, p5, p6]
    rw [ecr]
    have hbF : F1 b := g1.fb
    refine ⟨rfl, rfl, rfl, rfl, _, ⟨_, _, _, _, _, h6⟩, ⟨?_, fun g hg => ?_, fun g hg hn => ?_⟩⟩
    · rw [hput_size, hput_size, hput_size, hput_size, Array.size_push]
      exact Nat.le_trans chG.size (Nat.le_succ _)
    · rcases hg with (hg | hg) | hg
      · exact chG.old g hg
      · exact .inr (Nat.le_trans chG.size hg.1)
      · exact .inr (Nat.le_trans x1.size (oD.blk hg).1)
    · have hgb : g ≠ b := fun e => by
        subst e
        exact hn h.fb
      rw [hput_other _ _ _ _ hgb, hput_other _ _ _ _ hgb, hput_other _ _ _ _ hgb, hput_other _ _ _ _ hgb, push_old (Nat.lt_of_lt_of_le hg chG.size)]
      exact chG.get g hg hn
end
end Go.Proofs.Ytmkheogjnlmkdaa
