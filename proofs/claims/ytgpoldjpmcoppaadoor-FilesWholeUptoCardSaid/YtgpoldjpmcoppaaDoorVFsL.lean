/- Room, Rot, Lasting. -/
import Derived.Test.YtgpoldjpmcoppaaDoorVFsI
import Derived.Test.YtgpoldjpmcoppaaDoorVByt
set_option linter.unusedSimpArgs false
set_option linter.unusedVariables false
set_option maxRecDepth 20000
namespace Go.V
open Go
def rotD (d : List Int) (a : Nat) (x : Int) : List Int := d.set a (ibits .xor .u8 (d.getD a 0) x)
def rotS (s : St) (n : Nm) (a x : Int) : St × Int :=
  if isNm n = true then match s.now n with
    | none => (s, 82)
    | some f => if a < 0 ∨ ((s.dat f).length : Int) ≤ a ∨ x < 1 ∨ 255 < x then (s, 85) else ({ s with dat := setF s.dat f (rotD (s.dat f) a.toNat x) }, 0)
  else (s, 84)
def lastD (s : St) (n : Nm) : List Int := match s.last n with | some x => (s.dat x).take (s.syn x) | none => []
end Go.V
namespace Go.Proofs.YtgpoldjpmcoppaaDoor
open Go Go.V
-- 29: (*pith/fs.FS).Rot
-- 33: (*pith/fs.FS).Lasting
-- 54: pith/fs.isName
-- 64: maps.Keys[pith/fs.dir,string,*pith/fs.file]
-- 63: slices.Sorted[string]
-- 42: bytes.Clone
-- 86: fs.FS
-- 94: fs.file
-- 90: *fs.file
-- 9: string
-- 82: fs.dir
-- 5: uint8
-- 22: []uint8
-- 117: pith/api.File
-- 67: []api.File
section
variable {H H' : Heap} {F F' : Nat → Prop} {b mb lb hb : Nat} {pv : Value} {dv : Nat → Value} {s : St}
set_option maxHeartbeats 1600000 in
theorem F29 (h : FsP H F b mb lb hb pv dv s) (ok : Ok s) (n : Nm) (a x : Int) :
    Fun Tryd.prog 29 #[ptrOf b, .string n, .int .i64 a, .int .i64 x] H (fun r H' => r = .int .i64 (rotS s n a x).2 ∧ ∃ F', FsH H' F' b (rotS s n a x).1 ∧ Ch F F' H H') := by
  refine fun_of mixed (args := [_, _, _, _]) Tryd.func29 Tryd.ntmps29 b29 r29 rfl ?_
  obtain ⟨g0, g1, g2, g3, g4, g5, g6, g7⟩ := h.get
  simp only [go_sem, ↓reduceIte, Nat.reduceEqDiff, Nat.reduceLeDiff, Nat.reduceAdd, Nat.reduceMul, Nat.reduceSub, Nat.reduceBEq, Nat.reduceGT, Nat.reduceLT, Int.reduceLE, Int.reduceLT, Int.reduceNeg, reduceCtorEq, ptrOf]
  refine FunI.by (F54 n H) ?_
  rintro _ _ ⟨rfl, rfl⟩
  cases hn : isNm n with
  | false =>
    simp only [go_sem, ↓reduceIte, Nat.reduceEqDiff, Nat.reduceLeDiff, Nat.reduceAdd, Nat.reduceMul, Nat.reduceSub, Nat.reduceBEq, Nat.reduceGT, Nat.reduceLT, Int.reduceLE, Int.reduceLT, Int.reduceNeg, reduceCtorEq]
    have e : rotS s n a x = (s, 84) := by unfold rotS; rw [if_neg (by simp [hn])]
    rw [e]
    exact ⟨rfl, F, ⟨_, _, _, _, _, h⟩, Ch.refl _ _⟩
  | true =>
    obtain ⟨l, c, m1, m2⟩ := h.hN
    simp only [go_sem, ↓reduceIte, Nat.reduceEqDiff, Nat.reduceLeDiff, Nat.reduceAdd, Nat.reduceMul, Nat.reduceSub, Nat.reduceBEq, Nat.reduceGT, Nat.reduceLT, Int.reduceLE, Int.reduceLT, Int.reduceNeg, reduceCtorEq, g1]
    refine RunI.by (lookup_run (keyed_str (und_str ty9)) (und_map ty82) (zero_ty ty90) m1 n trivial fun _ _ => trivial) ?_
    rintro _ _ ⟨rfl, rfl⟩
    rw [m2]
    cases hf : s.now n with
    | none =>
      simp only [go_sem, ↓reduceIte, Nat.reduceEqDiff, Nat.reduceLeDiff, Nat.reduceAdd, Nat.reduceMul, Nat.reduceSub, Nat.reduceBEq, Nat.reduceGT, Nat.reduceLT, Int.reduceLE, Int.reduceLT, Int.reduceNeg, reduceCtorEq, Option.map_none, Option.getD_none]
      have e : rotS s n a x = (s, 82) := by unfold rotS; rw [if_pos hn]; simp only [hf]
      rw [e]
      exact ⟨rfl, F, ⟨_, _, _, _, _, h⟩, Ch.refl _ _⟩
    | some f =>
      have hfh := ok.nowH _ _ hf
      have hfx := h.hf f hfh
      obtain ⟨d0, d1, ⟨a', cap', hd⟩, _⟩ := hfx.at
      have hdl := dat_le ok hfh
      have hroom := ok.room
      rw [hd] at d0
      simp only [go_sem, ↓reduceIte, Nat.reduceEqDiff, Nat.reduceLeDiff, Nat.reduceAdd, Nat.reduceMul, Nat.reduceSub, Nat.reduceBEq, Nat.reduceGT, Nat.reduceLT, Int.reduceLE, Int.reduceLT, Int.reduceNeg, reduceCtorEq, Option.map_some, Option.getD_some, ptrOf, d0]
      by_cases hc : a < 0 ∨ ((s.dat f).length : Int) ≤ a ∨ x < 1 ∨ 255 < x
      · have e : rotS s n a x = (s, 85) := by unfold rotS; rw [if_pos hn]; simp only [hf]; rw [if_pos hc]
        rw [e]
        by_cases c1 : a < 0
        · simp only [go_sem, ↓reduceIte, Nat.reduceEqDiff, Nat.reduceLeDiff, Nat.reduceAdd, Nat.reduceMul, Nat.reduceSub, Nat.reduceBEq, Nat.reduceGT, Nat.reduceLT, Int.reduceLE, Int.reduceLT, Int.reduceNeg, reduceCtorEq, c1]
          exact ⟨F, ⟨_, _, _, _, _, h⟩, Ch.refl _ _⟩
        by_cases c2 : ((s.dat f).length : Int) ≤ a
        · simp only [go_sem, ↓reduceIte, Nat.reduceEqDiff, Nat.reduceLeDiff, Nat.reduceAdd, Nat.reduceMul, Nat.reduceSub, Nat.reduceBEq, Nat.reduceGT, Nat.reduceLT, Int.reduceLE, Int.reduceLT, Int.reduceNeg, reduceCtorEq, c1, c2]
          exact ⟨F, ⟨_, _, _, _, _, h⟩, Ch.refl _ _⟩
        by_cases c3 : x < 1
        · simp only [go_sem, ↓reduceIte, Nat.reduceEqDiff, Nat.reduceLeDiff, Nat.reduceAdd, Nat.reduceMul, Nat.reduceSub, Nat.reduceBEq, Nat.reduceGT, Nat.reduceLT, Int.reduceLE, Int.reduceLT, Int.reduceNeg, reduceCtorEq, c1, c2, c3]
          exact ⟨F, ⟨_, _, _, _, _, h⟩, Ch.refl _ _⟩
        have c4 : (255 : Int) < x := by omega
        simp only [go_sem, ↓reduceIte, Nat.reduceEqDiff, Nat.reduceLeDiff, Nat.reduceAdd, Nat.reduceMul, Nat.reduceSub, Nat.reduceBEq, Nat.reduceGT, Nat.reduceLT, Int.reduceLE, Int.reduceLT, Int.reduceNeg, reduceCtorEq, c1, c2, c3, c4]
        exact ⟨F, ⟨_, _, _, _, _, h⟩, Ch.refl _ _⟩
      · have e : rotS s n a x = ({ s with dat := setF s.dat f (rotD (s.dat f) a.toNat x) }, 0) := by unfold rotS; rw [if_pos hn]; simp only [hf]; rw [if_neg hc]
        have c1 : ¬ a < 0 := by omega
        have c2 : ¬ ((s.dat f).length : Int) ≤ a := by omega
        have c3 : ¬ x < 1 := by omega
        have c4 : ¬ (255 : Int) < x := by omega
        have c5 : (0 : Int) ≤ a := by omega
        have c6 : a < ((s.dat f).length : Int) := by omega
        have wx : IntKind.u8.wrap x = x := wu8_id (by omega) (by omega)
        have hlt : a.toNat < (s.dat f).length := by omega
        have ow := hfx.2.2.1
        rw [hd] at ow
        obtain ⟨gb, go, rfl⟩ := Sl.at ow.sl (by omega)
        have iw : Ints H 5 .u8 (.slice (some ⟨gb, go, none⟩) (s.dat f).length cap') (s.dat f) := ow.sl
        have gv := iw.get hlt
        obtain ⟨rfl, hcn, ow2, bt, _⟩ := ow.store hlt (.int .u8 (ibits .xor .u8 ((s.dat f).getD a.toNat 0) x))
        rw [Nat.zero_add] at hcn ow2 bt gv
        simp only [go_sem, ↓reduceIte, Nat.reduceEqDiff, Nat.reduceLeDiff, Nat.reduceAdd, Nat.reduceMul, Nat.reduceSub, Nat.reduceBEq, Nat.reduceGT, Nat.reduceLT, Int.reduceLE, Int.reduceLT, Int.reduceNeg, reduceCtorEq, d0, c1, c2, c3, c4, c5, c6, wx, Nat.mul_one, gv, hcn]
        have hfne : f ≠ gb := fun e => by
          obtain ⟨_, _, cc, hcc⟩ := ow.blk (g := gb) rfl
          rw [← e] at hcc
          exact tag_ne hfx.2.1 hcc (by decide : 94 ≠ 5) rfl
        have hxb : blk (dv f) = some gb := by rw [hd]; rfl
        obtain ⟨F', h4, ch4⟩ := h.setFile (H' := hput H gb a.toNat [.int .u8 (ibits .xor .u8 ((s.dat f).getD a.toNat 0) x)]) hfh (v' := dv f) (d' := rotD (s.dat f) a.toNat x) (sy' := s.syn f) bt.size
          (fun g hg hne hne2 => bt.get g hg fun e => by rw [hxb] at hne2; exact hne2 e) (by rw [hput_other _ _ _ _ hfne]; exact hfx.2.1)
          (by rw [hd]; unfold rotD; rw [List.map_set]; exact ow2) (.inl rfl)
        rw [setF_self, setF_self] at h4
        rw [e]
        exact ⟨rfl, rfl, F', ⟨_, _, _, _, _, h4⟩, ch4⟩
set_option maxHeartbeats 3200000 in
theorem F33 (h : FsP H F b mb lb hb pv dv s) (ok : Ok s) (hn : s.ops < 1099511627776) :
    Fun Tryd.prog 33 #[ptrOf b] H (fun r H' => ∃ ns P, IsNames s.last ns ∧ P.map (·.2) = ns.map (fun n => (n, lastD s n)) ∧ FilesO H' H.size r P ∧ Ext H H') := by
  refine fun_of mixed (args := [_]) Tryd.func33 Tryd.ntmps33 b33 r33 rfl ?_
  obtain ⟨g0, g1, g2, g3, g4, g5, g6, g7⟩ := h.get
  have hhl := ok.hlen
  simp only [go_sem, ↓reduceIte, Nat.reduceEqDiff, Nat.reduceLeDiff, Nat.reduceAdd, Nat.reduceMul, Nat.reduceSub, Nat.reduceBEq, Nat.reduceGT, Nat.reduceLT, Int.reduceLE, Int.reduceLT, Int.reduceNeg, reduceCtorEq, ptrOf, g2]
  refine FunI.by (F64 lb H) ?_
  rintro _ _ ⟨rfl, rfl⟩
  simp only [go_sem, ↓reduceIte, Nat.reduceEqDiff, Nat.reduceLeDiff, Nat.reduceAdd, Nat.reduceMul, Nat.reduceSub, Nat.reduceBEq, Nat.reduceGT, Nat.reduceLT, Int.reduceLE, Int.reduceLT, Int.reduceNeg, reduceCtorEq]
  refine keys_sorted h.hL ok.lastN ok.lastI ok.lastH (by omega) ?_
  rintro v3 H3 ns hns o3 x3
  obtain ⟨a3, cap3, rfl⟩ := strs_form (ns := ns) o3.sl
  have hnl : ns.length ≤ s.held.length := names_len hns ok.lastI ok.lastH
  simp only [go_sem, ↓reduceIte, Nat.reduceEqDiff, Nat.reduceLeDiff, Nat.reduceAdd, Nat.reduceMul, Nat.reduceSub, Nat.reduceBEq, Nat.reduceGT, Nat.reduceLT, Int.reduceLE, Int.reduceLT, Int.reduceNeg, reduceCtorEq]
  have hs3 := x3.size
  refine LoopI.by mixed (fun ρ H' => ∃ (i : Nat) (v : Value) (P : List (Value × Fl)), ρ 0 = ptrOf b ∧ ρ 3 = v ∧ ρ 12 = .slice a3 ns.length cap3 ∧ ρ 13 = .int .i64 ns.length ∧ ρ 14 = .int .i64 i ∧ i ≤ ns.length ∧ P.map (·.2) = (ns.take i).map (fun n => (n, lastD s n)) ∧ FilesO H' H.size v P ∧ Ext H H' ∧ Own H' (H.size + 1) 9 1 (.slice a3 ns.length cap3) (ns.map .string)) (fun ρ _ => ns.length - (iof (ρ 14)).toNat) ?_ ?_
  · exact ⟨0, _, [], by simp only [go_sem, ↓reduceIte, Nat.reduceEqDiff, Nat.reduceLeDiff, Nat.reduceAdd, Nat.reduceMul, Nat.reduceSub, Nat.reduceBEq, Nat.reduceGT, Nat.reduceLT, Int.reduceLE, Int.reduceLT, Int.reduceNeg, reduceCtorEq, ptrOf], by simp only [go_sem, ↓reduceIte, Nat.reduceEqDiff, Nat.reduceLeDiff, Nat.reduceAdd, Nat.reduceMul, Nat.reduceSub, Nat.reduceBEq, Nat.reduceGT, Nat.reduceLT, Int.reduceLE, Int.reduceLT, Int.reduceNeg, reduceCtorEq] <;> rfl, by simp only [go_sem, ↓reduceIte, Nat.reduceEqDiff, Nat.reduceLeDiff, Nat.reduceAdd, Nat.reduceMul, Nat.reduceSub, Nat.reduceBEq, Nat.reduceGT, Nat.reduceLT, Int.reduceLE, Int.reduceLT, Int.reduceNeg, reduceCtorEq], by simp only [go_sem, ↓reduceIte, Nat.reduceEqDiff, Nat.reduceLeDiff, Nat.reduceAdd, Nat.reduceMul, Nat.reduceSub, Nat.reduceBEq, Nat.reduceGT, Nat.reduceLT, Int.reduceLE, Int.reduceLT, Int.reduceNeg, reduceCtorEq], by simp only [go_sem, ↓reduceIte, Nat.reduceEqDiff, Nat.reduceLeDiff, Nat.reduceAdd, Nat.reduceMul, Nat.reduceSub, Nat.reduceBEq, Nat.reduceGT, Nat.reduceLT, Int.reduceLE, Int.reduceLT, Int.reduceNeg, reduceCtorEq] <;> rfl, by omega, rfl, ⟨Own.nil, by simp, by simp⟩, x3, o3⟩
  rintro ρ H4 ⟨i, v, P, e0, e3, e12, e13, e14, hi, hP, ho, hx, on3⟩
  by_cases hlt : i < ns.length
  · have z0 : (0 : Int) ≤ i := by omega
    have z1 : (i : Int) < ns.length := by omega
    have w1 : IntKind.i64.wrap ((i : Int) + 1) = ((i + 1 : Nat) : Int) := by rw [w64_id (by omega) (by omega)]; omega
    obtain ⟨n, hni⟩ : ∃ n, ns[i]? = some n := ⟨_, List.getElem?_eq_getElem hlt⟩
    obtain ⟨g5, o5, rfl, hgn⟩ := txts_at (ns := ns) on3.sl hni
    have hmem := List.mem_of_getElem? hni
    obtain ⟨x, hxn⟩ : ∃ x, s.last n = some x := by
      cases hxn : s.last n with
      | none => exact absurd hxn ((hns.2 n).1 hmem)
      | some x => exact ⟨x, rfl⟩
    have hxh := ok.lastH _ _ hxn
    have hsy := ok.syn x hxh
    have hdl := dat_le ok hxh
    have hroom := ok.room
    have h4 := h.ext hx
    obtain ⟨_, _, q2, _⟩ := h4.get
    obtain ⟨l, c, m1, m2⟩ := h4.hL
    simp only [go_sem, ↓reduceIte, Nat.reduceEqDiff, Nat.reduceLeDiff, Nat.reduceAdd, Nat.reduceMul, Nat.reduceSub, Nat.reduceBEq, Nat.reduceGT, Nat.reduceLT, Int.reduceLE, Int.reduceLT, Int.reduceNeg, reduceCtorEq, c33_L0, e0, e3, e12, e13, e14, z0, z1, Int.toNat_natCast, Nat.mul_one, hgn, ptrOf, q2]
    refine RunI.by (lookup_run (keyed_str (und_str ty9)) (und_map ty82) (zero_ty ty90) m1 n trivial fun _ _ => trivial) ?_
    rintro _ _ ⟨rfl, rfl⟩
    rw [m2, hxn]
    have hfx := h4.hf x hxh
    obtain ⟨d0, d1, ⟨a4, cap4, hd4⟩, _⟩ := hfx.at
    have ow := hfx.2.2.1
    rw [hd4] at d0 ow
    have hcap4 : (s.dat x).length ≤ cap4 := Sl.lecap ow.sl
    have eadd : (if cap4 = 0 then a4 else Option.map (fun x => x) a4) = a4 := by split; rfl; cases a4 <;> rfl
    have c5 : (0 : Int) ≤ ((s.syn x : Nat) : Int) := by omega
    have c6 : ((s.syn x : Nat) : Int) ≤ cap4 := by omega
    have ow2 : Own H4 0 5 1 (.slice a4 (s.syn x) cap4) (((s.dat x).take (s.syn x)).map (.int .u8)) := by rw [List.map_take]; exact ow.cutL hsy
    have hld : lastD s n = (s.dat x).take (s.syn x) := by unfold lastD; rw [hxn]
    have hll : ((s.dat x).take (s.syn x)).length = s.syn x := by rw [List.length_take]; omega
    simp only [go_sem, ↓reduceIte, Nat.reduceEqDiff, Nat.reduceLeDiff, Nat.reduceAdd, Nat.reduceMul, Nat.reduceSub, Nat.reduceBEq, Nat.reduceGT, Nat.reduceLT, Int.reduceLE, Int.reduceLT, Int.reduceNeg, reduceCtorEq, Option.map_some, Option.getD_some, ptrOf, e3, d0, d1, eadd, c5, c6, Int.toNat_natCast]
    refine FunI.by (F42 (xs := (s.dat x).take (s.syn x)) ow2.sl (by omega)) ?_
    rintro v5 H5 ⟨o5', x5⟩
    obtain ⟨a1, l1, cc1, rfl⟩ := Sl.form o5'.sl
    have hP1 : P.length = i := by have := congrArg List.length hP; simpa [Nat.min_eq_left hi] using this
    simp only [go_sem, ↓reduceIte, Nat.reduceEqDiff, Nat.reduceLeDiff, Nat.reduceAdd, Nat.reduceMul, Nat.reduceSub, Nat.reduceBEq, Nat.reduceGT, Nat.reduceLT, Int.reduceLE, Int.reduceLT, Int.reduceNeg, reduceCtorEq]
    refine ⟨x5, Upto.push x5 x5.size _, ?_⟩
    refine RunI.by (append_lit ty67 ty117 rfl (by decide) (ho.own.ext x5) (ys := [.string n, .slice a1 l1 cc1]) (m := 1) rfl rfl (n := i + 1) (by rw [fileK.cells_len, hP1]; simp; omega) (by omega) (by omega) (Nat.le_trans hx.size x5.size)) ?_
    rintro v2 H6 ⟨h1, h2, _⟩
    simp only [go_sem, ↓reduceIte, Nat.reduceEqDiff, Nat.reduceLeDiff, Nat.reduceAdd, Nat.reduceMul, Nat.reduceSub, Nat.reduceBEq, Nat.reduceGT, Nat.reduceLT, Int.reduceLE, Int.reduceLT, Int.reduceNeg, reduceCtorEq, e14, w1]
    have hx2 : Upto H.size H5 H6 := h2.upto (ho.own.ext x5) (Nat.le_trans hx.size x5.size)
    have inner : ∀ {w : Value} {ys : List Value}, Own H5 H.size 5 1 w ys → Own H6 H.size 5 1 w ys := fun hw => hw.byTag (ho.own.ext x5) h2.but (by decide : 5 ≠ 117)
    refine ⟨Hold.mk ⟨i + 1, v2, P ++ [(.slice a1 l1 cc1, (n, (s.dat x).take (s.syn x)))], by simp only [go_sem, ↓reduceIte, Nat.reduceEqDiff, Nat.reduceLeDiff, Nat.reduceAdd, Nat.reduceMul, Nat.reduceSub, Nat.reduceBEq, Nat.reduceGT, Nat.reduceLT, Int.reduceLE, Int.reduceLT, Int.reduceNeg, reduceCtorEq, e0, ptrOf], by simp only [go_sem, ↓reduceIte, Nat.reduceEqDiff, Nat.reduceLeDiff, Nat.reduceAdd, Nat.reduceMul, Nat.reduceSub, Nat.reduceBEq, Nat.reduceGT, Nat.reduceLT, Int.reduceLE, Int.reduceLT, Int.reduceNeg, reduceCtorEq], by simp only [go_sem, ↓reduceIte, Nat.reduceEqDiff, Nat.reduceLeDiff, Nat.reduceAdd, Nat.reduceMul, Nat.reduceSub, Nat.reduceBEq, Nat.reduceGT, Nat.reduceLT, Int.reduceLE, Int.reduceLT, Int.reduceNeg, reduceCtorEq, e12], by simp only [go_sem, ↓reduceIte, Nat.reduceEqDiff, Nat.reduceLeDiff, Nat.reduceAdd, Nat.reduceMul, Nat.reduceSub, Nat.reduceBEq, Nat.reduceGT, Nat.reduceLT, Int.reduceLE, Int.reduceLT, Int.reduceNeg, reduceCtorEq, e13], by simp only [go_sem, ↓reduceIte, Nat.reduceEqDiff, Nat.reduceLeDiff, Nat.reduceAdd, Nat.reduceMul, Nat.reduceSub, Nat.reduceBEq, Nat.reduceGT, Nat.reduceLT, Int.reduceLE, Int.reduceLT, Int.reduceNeg, reduceCtorEq], by omega, ?_, ⟨?_, ?_, ?_⟩, (hx.trans (x5.mono hx.size)).trans hx2, (on3.ext x5).byTag (ho.own.ext x5) h2.but (by decide : 9 ≠ 117)⟩, by omega⟩
    · rw [List.map_append, hP, List.take_add_one, hni, ← hld]
      simp
    · rw [fileK.cells_snoc]; exact h1
    · intro p hp
      rcases List.mem_append.1 hp with hp | hp
      · exact inner ((ho.each p hp).ext x5)
      · simp only [List.mem_singleton] at hp
        subst hp
        exact inner (o5'.mono hx.size)
    · rw [List.map_append, List.pairwise_append]
      refine ⟨ho.ap, by simp, fun w hw u' hu' => ?_⟩
      simp only [List.map_cons, List.map_nil, List.mem_singleton] at hu'
      subst hu'
      obtain ⟨p, hp, rfl⟩ := List.mem_map.1 hw
      cases hbw : blk p.1 with
      | none => exact .inl hbw
      | some g =>
        right
        rw [hbw]
        intro he
        have := ((ho.each p hp).blk hbw).2.1
        have := (o5'.blk he.symm).1
        omega
  · have z1 : ¬ (i : Int) < ns.length := by omega
    simp only [go_sem, ↓reduceIte, Nat.reduceEqDiff, Nat.reduceLeDiff, Nat.reduceAdd, Nat.reduceMul, Nat.reduceSub, Nat.reduceBEq, Nat.reduceGT, Nat.reduceLT, Int.reduceLE, Int.reduceLT, Int.reduceNeg, reduceCtorEq, c33_L0, e0, e3, e12, e13, e14, z1]
    have : i = ns.length := by omega
    subst this
    rw [List.take_of_length_le (Nat.le_refl _)] at hP
    exact ⟨ns, P, hns, hP, ho, hx⟩
end
end Go.Proofs.YtgpoldjpmcoppaaDoor
