/- A step done to a plain list of files, walked. -/
import Derived.Test.YtmkheogjnlmkdaaVFlA
set_option linter.unusedSimpArgs false
set_option linter.unusedVariables false
set_option maxRecDepth 20000
namespace Go.Proofs.Ytmkheogjnlmkdaa
open Go Go.V
-- 16: pith/pithlaw8.name
-- 18: pith/pithlaw8.bytes
-- 15: pith/pithlaw8.has
-- 47: pith/pithlaw8.drop
-- 17: pith/pithlaw8.plain
-- 36: pith/pithref.Files
-- 3: int
-- 5: uint8
-- 34: []uint8
-- 30: pithlaw8.Step
-- 44: pith/api.File
-- 26: []api.File
/-- A step in memory. -/
structure StepH (H : Heap) (b : Nat) (s : Stp) : Prop where
  lt : b < H.size
  g0 : hget H b 0 = some (.int .i64 s.kind)
  g1 : hget H b 1 = some (.int .i64 s.i)
  g2 : hget H b 2 = some (.int .i64 s.k)
  g3 : hget H b 3 = some (.int .i64 s.many)
  g4 : hget H b 4 = some (.int .u8 s.fill)
theorem StepH.ext {H H' : Heap} {b : Nat} {s : Stp} (h : StepH H b s) (x : Ext H H') : StepH H' b s :=
  ⟨x.lt h.lt, hget_ext x h.g0, hget_ext x h.g1, hget_ext x h.g2, hget_ext x h.g3, hget_ext x h.g4⟩
theorem StepH.box {H : Heap} (s : Stp) : StepH (H.push (.cells #[.int .i64 s.kind, .int .i64 s.i, .int .i64 s.k, .int .i64 s.many, .int .u8 s.fill] 30)) H.size s := by
  refine ⟨by simp, ?_, ?_, ?_, ?_, ?_⟩ <;> (unfold hget; rw [push_new]; rfl)
theorem RecP.e0 {H : Heap} {N : Nat → Prop} {b o len cap i : Nat} {P : List (Value × Fl)} (h : RecP fileK H N 44 5 (.slice (some ⟨b, o, none⟩) len cap) P) {u : Value} {x : Fl} (hp : P[i]? = some (u, x)) :
    hget H b (o + i * 2) = some (.string x.1) ∧ hget H b (o + i * 2 + 1) = some u ∧ Ints H 5 .u8 u x.2 ∧ ∀ g, blk u = some g → N g := by
  obtain ⟨_, g0, g2, g3⟩ := h.get hp
  exact ⟨g0 0 (by decide), g0 1 (by decide), g2, g3⟩
theorem RecO.fin {H H' : Heap} {N : Nat → Prop} {B : Nat} {v : Value} {P : List (Value × Fl)} {L : List Fl} (h : RecO fileK H' B N 44 5 v P) (hB : H.size ≤ B) (hL : P.map (·.2) = L) : FilesN H' (Gr N H H') v L :=
  ⟨P, hL, (h.more fun g hg => .inl hg).p fun g h1 h2 => .inr ⟨by omega, h2⟩⟩
theorem Own.put1 {H : Heap} {B : Nat} {e : TypeId} {sz g o len cap : Nat} {vs : List Value} (h : Own H B e sz (.slice (some ⟨g, o, none⟩) len cap) vs) {i : Nat} (hi : i < len * sz) (x : Value) :
    o = 0 ∧ hcan H g i 1 ∧ Own (hput H g i [x]) B e sz (.slice (some ⟨g, o, none⟩) len cap) (vs.set i x) ∧ But (some g) H (hput H g i [x]) := by
  rcases h with ⟨h, _⟩ | ⟨g', len', cap', c, he, hB, hg, hlc, hcm, hcs, hl, ht⟩
  · cases h
  · cases he
    have hls : len * sz ≤ cap * sz := Nat.mul_le_mul_right _ hlc
    refine ⟨rfl, ⟨c, e, (0, 0), hg, by omega, by simp⟩, .inr ⟨g, len, cap, _, rfl, hB, hput_same hg, hlc, hcm, ?_, by simpa using hl, ?_⟩, ⟨by rw [hput_size]; exact Nat.le_refl _, fun b _ hne => hput_other _ _ _ _ (fun e => hne (by rw [e]))⟩⟩
    · rw [cput_size (by simp; omega)]; omega
    · subst ht
      apply List.ext_getElem?
      intro k
      rw [List.getElem?_take, List.getElem?_set]
      by_cases hk : k < len * sz
      · rw [if_pos hk, Array.getElem?_toList]
        by_cases hik : i = k
        · subst hik
          rw [if_pos rfl, if_pos (by simp; omega)]
          have := cput_get_in (c := c) (o := i) (vs := [x]) (j := 0) (by simp; omega) (by simp)
          simpa using this
        · rw [if_neg hik, cput_get_out (by simp; omega) (by simp; omega), List.getElem?_take, if_pos hk]
          simp
      · rw [if_neg hk, if_neg (by omega), List.getElem?_take, if_neg hk]
theorem cells_set : ∀ (P : List (Value × Fl)) (i : Nat) (w u : Value) (x y : Fl), P[i]? = some (u, x) → y.1 = x.1 → (fileK.cells P).set (i * 2 + 1) w = fileK.cells (P.set i (w, y))
  | [], i, w, u, x, y, h, _ => by simp at h
  | p :: P, 0, w, u, x, y, h, e => by
    simp only [List.getElem?_cons_zero, Option.some.injEq] at h
    subst h
    simp [RecK.cells, e]
  | p :: P, i + 1, w, u, x, y, h, e => by
    have := cells_set P i w u x y (by simpa using h) e
    simp only [RecK.cells] at *
    rw [List.flatMap_cons, List.set_cons_succ, List.flatMap_cons, ← this, show (i + 1) * 2 + 1 = i * 2 + 1 + 2 by omega]
    rfl
theorem modify_set {L : List Fl} {i : Nat} {x : Fl} (h : L[i]? = some x) (f : Fl → Fl) : L.modify i f = L.set i (f x) := by
  apply List.ext_getElem?
  intro k
  rw [List.getElem?_modify, List.getElem?_set]
  by_cases hk : i = k
  · subst hk
    rw [if_pos rfl, if_pos (List.getElem?_eq_some_iff.1 h).1, h]
    simp
  · rw [if_neg hk]
    simp [hk]
set_option maxHeartbeats 3200000 in
theorem F17 {H : Heap} {N : Nat → Prop} {v : Value} {L : List Fl} (hv : FilesN H N v L) (hN : ∀ g, N g → g < H.size) (hl : L.length ≤ 1000000) (hd : ∀ x ∈ L, x.2.length ≤ 1000000000) (s : Stp) (hf : 0 ≤ s.fill ∧ s.fill < 256) :
    Fun Try.prog 17 #[v, .agg #[.int .i64 s.kind, .int .i64 s.i, .int .i64 s.k, .int .i64 s.many, .int .u8 s.fill]] H (fun r H' => FilesN H' (Gr N H H') r (plainS L s) ∧ Ext H H') := by
  obtain ⟨a, c, rfl⟩ := hv.form
  refine fun_of mixed (args := [_, _]) Try.func17 Try.ntmps17 b17 r17 rfl ?_
  have x0 : Ext H (H.push (.cells #[.int .i64 s.kind, .int .i64 s.i, .int .i64 s.k, .int .i64 s.many, .int .u8 s.fill] 30)) := Ext.push _
  have st := StepH.box (H := H) s
  obtain ⟨k0, k1, k2, k3, k4, k5⟩ := st
  simp only [go_sem, ↓reduceIte, Nat.reduceEqDiff, Nat.reduceLeDiff, Nat.reduceAdd, Nat.reduceMul, Nat.reduceSub, Nat.reduceBEq, Nat.reduceGT, Nat.reduceLT, Int.reduceLE, Int.reduceLT, Int.reduceNeg, reduceCtorEq, k2]
  refine FunI.by (F16 s.i _) ?_
  rintro _ H1 ⟨rfl, x1⟩
  have hx1 := x0.trans (x1.mono x0.size)
  have hv1 := hv.ext hx1
  have st1 := (StepH.box (H := H) s).ext x1
  clear x0 x1 k0 k1 k2 k3 k4 k5
  simp only [go_sem, ↓reduceIte, Nat.reduceEqDiff, Nat.reduceLeDiff, Nat.reduceAdd, Nat.reduceMul, Nat.reduceSub, Nat.reduceBEq, Nat.reduceGT, Nat.reduceLT, Int.reduceLE, Int.reduceLT, Int.reduceNeg, reduceCtorEq]
  refine FunI.by (F15 hv1 (by omega) (nameS s.i)) ?_
  rintro _ _ ⟨rfl, rfl⟩
  have fin : ∀ {r : Value} {M : List Fl} {H2 : Heap}, M = plainS L s → FilesN H2 (Gr N H H2) r M → Ext H H2 → FilesN H2 (Gr N H H2) r (plainS L s) ∧ Ext H H2 := fun e h x => ⟨e ▸ h, x⟩
  have keep : FilesN H1 (Gr N H H1) (.slice a L.length c) L := hv1.more fun g hg => .inl hg
  by_cases h1 : s.kind = 1
  · cases hh : hasN L (nameS s.i) with
    | some i =>
      have e1 : hasS L (nameS s.i) = i := by unfold hasS; rw [hh]
      have c1 : ¬ (i : Int) < 0 := by omega
      simp only [go_sem, ↓reduceIte, Nat.reduceEqDiff, Nat.reduceLeDiff, Nat.reduceAdd, Nat.reduceMul, Nat.reduceSub, Nat.reduceBEq, Nat.reduceGT, Nat.reduceLT, Int.reduceLE, Int.reduceLT, Int.reduceNeg, reduceCtorEq, st1.g0, h1, e1, c1]
      exact fin (by unfold plainS; rw [if_pos h1, hh]) keep hx1
    | none =>
      have e1 : hasS L (nameS s.i) = -1 := by unfold hasS; rw [hh]
      simp only [go_sem, ↓reduceIte, Nat.reduceEqDiff, Nat.reduceLeDiff, Nat.reduceAdd, Nat.reduceMul, Nat.reduceSub, Nat.reduceBEq, Nat.reduceGT, Nat.reduceLT, Int.reduceLE, Int.reduceLT, Int.reduceNeg, reduceCtorEq, st1.g0, h1, e1, st1.g1]
      obtain ⟨P, hP, hp⟩ := hv1
      refine FunI.by (F47 hp (fun g hg => Nat.lt_of_lt_of_le (hN g hg) hx1.size) (by have := congrArg List.length hP; rw [List.length_map] at this; omega) (-1)) ?_
      rintro m H2 ⟨o2, x2⟩
      simp only [go_sem, ↓reduceIte, Nat.reduceEqDiff, Nat.reduceLeDiff, Nat.reduceAdd, Nat.reduceMul, Nat.reduceSub, Nat.reduceBEq, Nat.reduceGT, Nat.reduceLT, Int.reduceLE, Int.reduceLT, Int.reduceNeg, reduceCtorEq]
      refine ⟨x2, ?_⟩
      refine FunI.by (F16 s.i _) ?_
      rintro _ H3 ⟨rfl, x3⟩
      simp only [go_sem, ↓reduceIte, Nat.reduceEqDiff, Nat.reduceLeDiff, Nat.reduceAdd, Nat.reduceMul, Nat.reduceSub, Nat.reduceBEq, Nat.reduceGT, Nat.reduceLT, Int.reduceLE, Int.reduceLT, Int.reduceNeg, reduceCtorEq]
      refine ⟨x2.trans (x3.mono x2.size), (x2.trans (x3.mono x2.size)).push (Nat.le_trans x2.size x3.size) _, ?_⟩
      have hlen := dropL_len P (-1)
      have hPl : P.length = L.length := by have := congrArg List.length hP; rw [List.length_map] at this; exact this
      have hs2 : H1.size ≤ H3.size := Nat.le_trans x2.size x3.size
      refine RunI.by (RecO.add (R := fileK) (x := (nameS s.i, [])) ty26 ty44 rfl (fun g hg hn => by have := (o2.1.blk hg).1; have := hN g hn; have := hx1.size; omega) (o2.ext x3) Ints.nil (fun g hg => by simp [blk] at hg) rfl (by omega) (by omega) hs2) ?_
      rintro m' H4 ⟨o4, gw, _, _⟩
      simp only [go_sem, ↓reduceIte, Nat.reduceEqDiff, Nat.reduceLeDiff, Nat.reduceAdd, Nat.reduceMul, Nat.reduceSub, Nat.reduceBEq, Nat.reduceGT, Nat.reduceLT, Int.reduceLE, Int.reduceLT, Int.reduceNeg, reduceCtorEq]
      refine fin ?_ (RecO.fin o4 hx1.size rfl) ?_
      · unfold plainS
        rw [if_pos h1, hh, List.map_append, dropL_map, hP]
        rfl
      · exact hx1.trans (((x2.trans (x3.mono x2.size)).trans (gw.upto (o2.1.ext x3) hs2)).mono hx1.size)
  by_cases h2 : s.kind = 2
  · cases hh : hasN L (nameS s.i) with
    | none =>
      have e1 : hasS L (nameS s.i) = -1 := by unfold hasS; rw [hh]
      simp only [go_sem, ↓reduceIte, Nat.reduceEqDiff, Nat.reduceLeDiff, Nat.reduceAdd, Nat.reduceMul, Nat.reduceSub, Nat.reduceBEq, Nat.reduceGT, Nat.reduceLT, Int.reduceLE, Int.reduceLT, Int.reduceNeg, reduceCtorEq, st1.g0, h2, e1, Int.reduceEq]
      exact fin (by unfold plainS; rw [if_neg h1, if_pos h2, hh]) keep hx1
    | some i =>
      have e1 : hasS L (nameS s.i) = i := by unfold hasS; rw [hh]
      have c1 : (0 : Int) ≤ i := by omega
      obtain ⟨dd, hLi, _⟩ := hasN_some hh
      have hil := (List.getElem?_eq_some_iff.1 hLi).1
      have c2 : (i : Int) < L.length := by omega
      simp only [go_sem, ↓reduceIte, Nat.reduceEqDiff, Nat.reduceLeDiff, Nat.reduceAdd, Nat.reduceMul, Nat.reduceSub, Nat.reduceBEq, Nat.reduceGT, Nat.reduceLT, Int.reduceLE, Int.reduceLT, Int.reduceNeg, reduceCtorEq, st1.g0, h2, e1, c1, Int.reduceEq]
      refine FunI.by (F36 _ L H1 hv1 (by omega) (fun x hx => by have := hd x hx; omega)) ?_
      rintro m H2 ⟨P, hP, o2, x2⟩
      have hPl : P.length = L.length := by have := congrArg List.length hP; rw [List.length_map] at this; exact this
      obtain ⟨a1, l1, cc1, rfl⟩ := Sl.form o2.own.sl
      have hl1 : l1 = L.length := by
        have := Sl.length o2.own.sl
        rw [fileK.cells_len, hPl] at this
        exact (Nat.eq_of_mul_eq_mul_right (by decide : 0 < 2) this).symm
      subst hl1
      obtain ⟨b, o, rfl⟩ := Sl.at o2.own.sl (by omega)
      obtain ⟨⟨u, x⟩, hPi⟩ : ∃ p, P[i]? = some p := ⟨_, List.getElem?_eq_getElem (by omega)⟩
      have hx : x = (nameS s.i, dd) := by
        have : L[i]? = some x := by rw [← hP, List.getElem?_map, hPi]; rfl
        rw [hLi] at this; exact (Option.some.inj this).symm
      have rp : RecP fileK H2 (fun _ => True) 44 5 (.slice (some ⟨b, o, none⟩) L.length cc1) P := ⟨o2.own.sl, fun p hp => ⟨(o2.each p hp).sl, fun _ _ => trivial⟩, fun _ _ => trivial⟩
      obtain ⟨_, gd, gi, _⟩ := RecP.e0 rp hPi
      obtain ⟨a2, l2, cc2, rfl⟩ := Sl.form gi
      have st2 := st1.ext x2
      have hu := o2.each _ (List.mem_of_getElem? hPi)
      simp only [go_sem, ↓reduceIte, Nat.reduceEqDiff, Nat.reduceLeDiff, Nat.reduceAdd, Nat.reduceMul, Nat.reduceSub, Nat.reduceBEq, Nat.reduceGT, Nat.reduceLT, Int.reduceLE, Int.reduceLT, Int.reduceNeg, reduceCtorEq, c1, c2, Int.toNat_natCast, gd, hgets5, Nat.zero_add, st2.g0, st2.g1, st2.g2, st2.g3, st2.g4, Option.bind_some]
      refine FunI.by (F18 s _ hf) ?_
      rintro v3 H3 ⟨o3, x3⟩
      obtain ⟨a3, l3, cc3, rfl⟩ := Sl.form o3.sl
      simp only [go_sem, ↓reduceIte, Nat.reduceEqDiff, Nat.reduceLeDiff, Nat.reduceAdd, Nat.reduceMul, Nat.reduceSub, Nat.reduceBEq, Nat.reduceGT, Nat.reduceLT, Int.reduceLE, Int.reduceLT, Int.reduceNeg, reduceCtorEq]
      refine ⟨x3, ?_⟩
      have hxl : x.2.length ≤ 1000000000 := by rw [hx]; exact hd _ (List.mem_of_getElem? hLi)
      have hbl := bytS_le s
      refine RunI.by (append_own ty34 ty5 rfl rfl rfl (by decide) (hu.ext x3) o3.sl (by intro u hu; obtain ⟨y, _, rfl⟩ := List.mem_map.1 hu; rfl) (n := x.2.length + (bytS s).length) (by simp) (by show (x.2.length + (bytS s).length) * 1 ≤ _; omega) (by omega) (Nat.le_trans hx1.size (Nat.le_trans x2.size x3.size) |> fun h => by have := x2.size; have := x3.size; omega)) ?_
      rintro v4 H4 ⟨o4, b4, a4, _⟩
      obtain ⟨a5, l5, cc5, rfl⟩ := Sl.form o4.sl
      have own3 := o2.own.ext x3
      have own4 : Own H4 H1.size 44 2 (.slice (some ⟨b, o, none⟩) L.length cc1) (fileK.cells P) := own3.keep fun g hg => b4.get g (own3.blk hg).2.1 fun e => by
        obtain ⟨_, _, q, hq⟩ := own3.blk hg
        obtain ⟨_, _, q', hq'⟩ := (hu.ext x3).blk e.symm
        rw [hq] at hq'
        cases hq'
      obtain ⟨rfl, hc, own5, b5⟩ := Own.put1 own4 (i := i * 2 + 1) (by omega) (.slice a5 l5 cc5)
      rw [cells_set P i _ _ x (x.1, x.2 ++ bytS s) hPi rfl] at own5
      simp only [go_sem, ↓reduceIte, Nat.reduceEqDiff, Nat.reduceLeDiff, Nat.reduceAdd, Nat.reduceMul, Nat.reduceSub, Nat.reduceBEq, Nat.reduceGT, Nat.reduceLT, Int.reduceLE, Int.reduceLT, Int.reduceNeg, reduceCtorEq, c1, c2, Int.toNat_natCast, Nat.zero_add, hc]
      have hs1 := hx1.size
      have hs2 := x2.size
      have hs3 := x3.size
      have each : ∀ p ∈ P, Own H3 H1.size 5 1 p.1 (p.2.2.map (.int .u8)) := fun p hp => (o2.each p hp).ext x3
      have inner : ∀ {w : Value} {B : Nat} {ys : List Value}, Own H4 B 5 1 w ys → Own (hput H4 b (i * 2 + 1) [.slice a5 l5 cc5]) B 5 1 w ys := by
        intro w B ys hw
        refine hw.but b5 ?_
        cases hbw : blk w with
        | none => exact .inl rfl
        | some g =>
          right
          intro he
          obtain ⟨_, _, c1, hc1⟩ := hw.blk hbw
          obtain ⟨_, _, c2, hc2⟩ := own4.blk (g := b) rfl
          cases he
          rw [hc1] at hc2
          cases hc2
      have up : Upto H1.size H1 (hput H4 b (i * 2 + 1) [.slice a5 l5 cc5]) := by
        have u3 : Upto H1.size H1 H3 := x2.trans (x3.mono hs2)
        have u4 : Upto H1.size H3 H4 := b4.upto (fun k hk => ((hu.ext x3).blk hk).1) (by omega)
        exact (u3.trans u4).hput (own4.blk (g := b) rfl).1
      have szf : (hput H4 b (i * 2 + 1) [.slice a5 l5 cc5]).size = H4.size := hput_size _ _ _ _
      refine ⟨rfl, fin (M := L.set i (x.1, x.2 ++ bytS s)) ?_ ⟨_, ?_, own5.sl, fun p hp => ?_, fun g hg => .inr ⟨?_, (own5.blk hg).2.1⟩⟩ (hx1.trans (up.mono hs1))⟩
      · unfold plainS
        rw [if_neg h1, if_pos h2, hh]
        simp only
        rw [modify_set hLi, hx]
      · rw [List.map_set, hP]
      · rcases List.mem_or_eq_of_mem_set hp with hp' | rfl
        · obtain ⟨j, hjl, hj⟩ := List.getElem_of_mem hp
          by_cases hji : i = j
          · subst hji
            rw [List.getElem_set_self] at hj
            subst hj
            have o6 := inner o4
            rw [← List.map_append] at o6
            exact ⟨o6.sl, fun g hg => .inr ⟨by have := (o6.blk hg).1; omega, (o6.blk hg).2.1⟩⟩
          · rw [List.getElem_set_ne hji] at hj
            have hjl' : j < P.length := by simpa using hjl
            have hap : Apart p.1 (.slice a2 l2 cc2) := by
              have hi2 := (List.getElem?_eq_some_iff.1 hPi).2
              have hil2 := (List.getElem?_eq_some_iff.1 hPi).1
              rcases Nat.lt_or_ge j i with hlt | hge
              · have := List.pairwise_iff_getElem.1 o2.ap j i (by simpa using hjl') (by simpa using hil2) hlt
                rw [List.getElem_map, List.getElem_map, hi2, hj] at this
                exact this
              · have := List.pairwise_iff_getElem.1 o2.ap i j (by simpa using hil2) (by simpa using hjl') (by omega)
                rw [List.getElem_map, List.getElem_map, hi2, hj] at this
                exact this.symm
            have hpm : p ∈ P := hj ▸ List.getElem_mem hjl'
            have o6 := inner ((each p hpm).but b4 hap)
            exact ⟨o6.sl, fun g hg => .inr ⟨by have := (o6.blk hg).1; omega, (o6.blk hg).2.1⟩⟩
        · have o6 := inner o4
          rw [← List.map_append] at o6
          exact ⟨o6.sl, fun g hg => .inr ⟨by have := (o6.blk hg).1; omega, (o6.blk hg).2.1⟩⟩
      · have := (own5.blk hg).1; omega
  by_cases h4 : s.kind = 4
  · cases hh : hasN L (nameS s.i) with
    | none =>
      have e1 : hasS L (nameS s.i) = -1 := by unfold hasS; rw [hh]
      simp only [go_sem, ↓reduceIte, Nat.reduceEqDiff, Nat.reduceLeDiff, Nat.reduceAdd, Nat.reduceMul, Nat.reduceSub, Nat.reduceBEq, Nat.reduceGT, Nat.reduceLT, Int.reduceLE, Int.reduceLT, Int.reduceNeg, reduceCtorEq, st1.g0, h4, e1, Int.reduceEq]
      exact fin (by unfold plainS; rw [if_neg h1, if_neg h2, if_pos h4, hh]) keep hx1
    | some i =>
      have e1 : hasS L (nameS s.i) = i := by unfold hasS; rw [hh]
      have c1 : (0 : Int) ≤ i := by omega
      obtain ⟨dd, hLi, _⟩ := hasN_some hh
      have hil := (List.getElem?_eq_some_iff.1 hLi).1
      have c2 : (i : Int) < L.length := by omega
      simp only [go_sem, ↓reduceIte, Nat.reduceEqDiff, Nat.reduceLeDiff, Nat.reduceAdd, Nat.reduceMul, Nat.reduceSub, Nat.reduceBEq, Nat.reduceGT, Nat.reduceLT, Int.reduceLE, Int.reduceLT, Int.reduceNeg, reduceCtorEq, st1.g0, h4, e1, c1, st1.g1, st1.g2, Int.reduceEq]
      refine FunI.by (F16 s.i _) ?_
      rintro _ H2 ⟨rfl, x2⟩
      simp only [go_sem, ↓reduceIte, Nat.reduceEqDiff, Nat.reduceLeDiff, Nat.reduceAdd, Nat.reduceMul, Nat.reduceSub, Nat.reduceBEq, Nat.reduceGT, Nat.reduceLT, Int.reduceLE, Int.reduceLT, Int.reduceNeg, reduceCtorEq]
      refine ⟨x2, ?_⟩
      refine FunI.by (F16 s.k _) ?_
      rintro _ H3 ⟨rfl, x3⟩
      have y3 : Ext H1 H3 := x2.trans (x3.mono x2.size)
      have st3 := st1.ext y3
      have hv3 := hv1.ext y3
      clear x2
      have hx3 : Ext H H3 := hx1.trans (y3.mono hx1.size)
      by_cases hne : nameS s.i = nameS s.k
      · simp only [go_sem, ↓reduceIte, Nat.reduceEqDiff, Nat.reduceLeDiff, Nat.reduceAdd, Nat.reduceMul, Nat.reduceSub, Nat.reduceBEq, Nat.reduceGT, Nat.reduceLT, Int.reduceLE, Int.reduceLT, Int.reduceNeg, reduceCtorEq, str_dec, hne]
        refine ⟨y3, fin ?_ (hv3.more fun g hg => .inl hg) hx3⟩
        unfold plainS
        rw [if_neg h1, if_neg h2, if_pos h4, hh]
        simp only
        rw [if_neg (by rw [hne]; simp)]
      obtain ⟨P, hP, hp⟩ := hv3
      have hPl : P.length = L.length := by have := congrArg List.length hP; rw [List.length_map] at this; exact this
      obtain ⟨b, o, rfl⟩ := hp.at (by omega : i < P.length)
      obtain ⟨⟨u, x⟩, hPi⟩ : ∃ p, P[i]? = some p := ⟨_, List.getElem?_eq_getElem (by omega)⟩
      have hx : x = (nameS s.i, dd) := by
        have : L[i]? = some x := by rw [← hP, List.getElem?_map, hPi]; rfl
        rw [hLi] at this; exact (Option.some.inj this).symm
      obtain ⟨gs, gd, gi, gN⟩ := RecP.e0 hp hPi
      obtain ⟨a2, l2, cc2, rfl⟩ := Sl.form gi
      have n2 : hcan (H3.push (.cells #[.string ⟨#[]⟩, .slice none 0 0] 44)) H3.size 0 2 := hcan_of push_new (by simp)
      have n3 : hput (H3.push (.cells #[.string ⟨#[]⟩, .slice none 0 0] 44)) H3.size 0 [.string x.1, .slice a2 l2 cc2] = H3.push (.cells #[.string x.1, .slice a2 l2 cc2] 44) := hput_push rfl
      have y4 : Ext H3 (H3.push (.cells #[.string x.1, .slice a2 l2 cc2] 44)) := Ext.push _
      have n5 : hget (H3.push (.cells #[.string x.1, .slice a2 l2 cc2] 44)) H3.size 1 = some (.slice a2 l2 cc2) := by unfold hget; rw [push_new]; rfl
      have z4 : H3.size < (H3.push (.cells #[.string x.1, .slice a2 l2 cc2] 44)).size := by simp
      simp only [go_sem, ↓reduceIte, Nat.reduceEqDiff, Nat.reduceLeDiff, Nat.reduceAdd, Nat.reduceMul, Nat.reduceSub, Nat.reduceBEq, Nat.reduceGT, Nat.reduceLT, Int.reduceLE, Int.reduceLT, Int.reduceNeg, reduceCtorEq, str_dec, hne, c1, c2, Int.toNat_natCast, Nat.zero_add, gs, gd, hgets2, Option.bind_some, n2, n3]
      refine ⟨y3, rfl, ?_⟩
      have hN3 : ∀ g, N g → g < H3.size := fun g hg => Nat.lt_of_lt_of_le (hN g hg) hx3.size
      generalize H3.push (.cells #[.string x.1, .slice a2 l2 cc2] 44) = H4 at *
      have hs4 := y4.size
      have hs3 := hx3.size
      have st4 := st3.ext y4
      refine FunI.by (F47 (hp.ext y4) (fun g hg => by have := hN3 g hg; omega) (by omega) (i : Int)) ?_
      rintro m5 H5 ⟨o5, x5⟩
      have st5 := st4.ext x5
      simp only [go_sem, ↓reduceIte, Nat.reduceEqDiff, Nat.reduceLeDiff, Nat.reduceAdd, Nat.reduceMul, Nat.reduceSub, Nat.reduceBEq, Nat.reduceGT, Nat.reduceLT, Int.reduceLE, Int.reduceLT, Int.reduceNeg, reduceCtorEq, st5.g2]
      refine FunI.by (F16 s.k _) ?_
      rintro _ H6 ⟨rfl, x6⟩
      simp only [go_sem, ↓reduceIte, Nat.reduceEqDiff, Nat.reduceLeDiff, Nat.reduceAdd, Nat.reduceMul, Nat.reduceSub, Nat.reduceBEq, Nat.reduceGT, Nat.reduceLT, Int.reduceLE, Int.reduceLT, Int.reduceNeg, reduceCtorEq]
      have z5 := x5.size
      have z6 := x6.size
      have hl5 := dropL_len P (i : Int)
      have fn6 : FilesN H6 (fun g => N g ∨ (H4.size ≤ g ∧ g < H6.size)) m5 (dropL L (i : Int)) := ⟨_, by rw [dropL_map, hP], ((o5.ext x6).more fun g hg => .inl hg).p fun g h1 h2 => .inr ⟨h1, h2⟩⟩
      refine FunI.by (F15 fn6 (by rw [← hP, ← dropL_map, List.length_map]; omega) (nameS s.k)) ?_
      rintro _ _ ⟨rfl, rfl⟩
      have st6 := st5.ext x6
      have rp6 : RecP fileK H6 (fun g => N g ∨ (H4.size ≤ g ∧ g < H6.size)) 44 5 m5 (dropL P (i : Int)) := ((o5.ext x6).more fun g hg => .inl hg).p fun g h1 h2 => .inr ⟨h1, h2⟩
      simp only [go_sem, ↓reduceIte, Nat.reduceEqDiff, Nat.reduceLeDiff, Nat.reduceAdd, Nat.reduceMul, Nat.reduceSub, Nat.reduceBEq, Nat.reduceGT, Nat.reduceLT, Int.reduceLE, Int.reduceLT, Int.reduceNeg, reduceCtorEq]
      refine FunI.by (F47 rp6 (fun g hg => ?_) (by omega) (hasS (dropL L (i : Int)) (nameS s.k))) ?_
      · rcases hg with hg | hg
        · have := hN3 g hg; omega
        · exact hg.2
      rintro m7 H7 ⟨o7, x7⟩
      have st7 := st6.ext x7
      have z7 := x7.size
      have hl7 := dropL_len (dropL P (i : Int)) (hasS (dropL L (i : Int)) (nameS s.k))
      simp only [go_sem, ↓reduceIte, Nat.reduceEqDiff, Nat.reduceLeDiff, Nat.reduceAdd, Nat.reduceMul, Nat.reduceSub, Nat.reduceBEq, Nat.reduceGT, Nat.reduceLT, Int.reduceLE, Int.reduceLT, Int.reduceNeg, reduceCtorEq, st7.g2, hget_ext ((x5.trans (x6.mono z5)).trans (x7.mono (by omega))) n5]
      refine FunI.by (F16 s.k _) ?_
      rintro _ H8 ⟨rfl, x8⟩
      have z8 := x8.size
      simp only [go_sem, ↓reduceIte, Nat.reduceEqDiff, Nat.reduceLeDiff, Nat.reduceAdd, Nat.reduceMul, Nat.reduceSub, Nat.reduceBEq, Nat.reduceGT, Nat.reduceLT, Int.reduceLE, Int.reduceLT, Int.reduceNeg, reduceCtorEq]
      refine ⟨x8, Upto.push x8 z8 _, ?_⟩
      have y8 : Ext H3 H8 := (((y4.trans (x5.mono hs4)).trans (x6.mono (by omega))).trans (x7.mono (by omega))).trans (x8.mono (by omega))
      refine RunI.by (RecO.add (R := fileK) (x := (nameS s.k, x.2)) ty26 ty44 rfl (fun g hg hn => ?_) (o7.ext x8) (gi.ext y8) (fun g hg => .inl (gN g hg)) rfl (by omega) (by omega) (by omega)) ?_
      · have q1 := (o7.1.blk hg).1
        rcases hn with hn | hn
        · have := hN3 g hn; omega
        · omega
      rintro m9 H9 ⟨o9, gw, _, _⟩
      simp only [go_sem, ↓reduceIte, Nat.reduceEqDiff, Nat.reduceLeDiff, Nat.reduceAdd, Nat.reduceMul, Nat.reduceSub, Nat.reduceBEq, Nat.reduceGT, Nat.reduceLT, Int.reduceLE, Int.reduceLT, Int.reduceNeg, reduceCtorEq]
      have y9 : Ext H6 H9 := (x7.trans (x8.mono z7)).trans (gw.upto (o7.1.ext x8) (by omega))
      have y10 : Ext H3 H9 := ((y4.trans (x5.mono hs4)).trans (x6.mono (by omega))).trans (y9.mono (by omega))
      refine fin (M := (dropL (dropL P (i : Int)) (hasS (dropL L (i : Int)) (nameS s.k)) ++ [(Value.slice a2 l2 cc2, (nameS s.k, x.2))]).map (·.2)) ?_ ⟨_, rfl, (o9.more (N' := Gr N H H9) fun g hg => ?_).p fun g h1 h2 => .inr ⟨by omega, h2⟩⟩ (hx3.trans (y10.mono hs3))
      · unfold plainS
        rw [if_neg h1, if_neg h2, if_pos h4, hh]
        simp only
        rw [if_pos hne, List.map_append, dropL_map, dropL_map, hP, List.getD_eq_getElem?_getD, hLi, hx]
        rfl
      · rcases hg with hg | hg
        · exact .inl hg
        · have := y9.size; exact .inr ⟨by omega, by omega⟩
  by_cases h5 : s.kind = 5
  · simp only [go_sem, ↓reduceIte, Nat.reduceEqDiff, Nat.reduceLeDiff, Nat.reduceAdd, Nat.reduceMul, Nat.reduceSub, Nat.reduceBEq, Nat.reduceGT, Nat.reduceLT, Int.reduceLE, Int.reduceLT, Int.reduceNeg, reduceCtorEq, st1.g0, h5, Int.reduceEq]
    obtain ⟨P, hP, hp⟩ := hv1
    have hPl : P.length = L.length := by have := congrArg List.length hP; rw [List.length_map] at this; exact this
    refine FunI.by (F47 hp (fun g hg => Nat.lt_of_lt_of_le (hN g hg) hx1.size) (by omega) (hasS L (nameS s.i))) ?_
    rintro m H2 ⟨o2, x2⟩
    simp only [go_sem, ↓reduceIte, Nat.reduceEqDiff, Nat.reduceLeDiff, Nat.reduceAdd, Nat.reduceMul, Nat.reduceSub, Nat.reduceBEq, Nat.reduceGT, Nat.reduceLT, Int.reduceLE, Int.reduceLT, Int.reduceNeg, reduceCtorEq]
    refine fin ?_ (RecO.fin o2 hx1.size rfl) (hx1.trans (x2.mono hx1.size))
    unfold plainS
    rw [if_neg h1, if_neg h2, if_neg h4, if_pos h5, dropL_map, hP]
  simp only [go_sem, ↓reduceIte, Nat.reduceEqDiff, Nat.reduceLeDiff, Nat.reduceAdd, Nat.reduceMul, Nat.reduceSub, Nat.reduceBEq, Nat.reduceGT, Nat.reduceLT, Int.reduceLE, Int.reduceLT, Int.reduceNeg, reduceCtorEq, st1.g0, h1, h2, h4, h5]
  exact fin (by unfold plainS; rw [if_neg h1, if_neg h2, if_neg h4, if_neg h5]) keep hx1
end Go.Proofs.Ytmkheogjnlmkdaa
