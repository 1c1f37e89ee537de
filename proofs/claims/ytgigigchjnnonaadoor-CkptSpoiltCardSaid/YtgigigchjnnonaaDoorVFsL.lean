/- Room, Rot, Lasting. -/
import Derived.Test.YtgigigchjnnonaaDoorM2
import Derived.Test.YtgigigchjnnonaaDoorVByt
set_option linter.unusedSimpArgs false
set_option linter.unusedVariables false
set_option maxRecDepth 20000
namespace Go.V
open Go
def rotD (d : List Int) (a : Nat) (x : Int) : List Int := d.set a (ibits .xor .u8 (d.getD a 0) x)
def rotS (s : St) (n : Nm) (a x : Int) : St × Int :=
  if isNm n = true then match s.now n with
    | none => (s, 82)
    | some f => if a < 0 ∨ ((s.dat f).length : Int) ≤ a ∨ x < 1 ∨ 255 < x then (s, 85) else ({ s with dat := setF s.dat f (rotD (s.dat f) a.toNat x) }, 0)
  else (s, 84)
def lastD (s : St) (n : Nm) : List Int := match s.last n with | some x => (s.dat x).take (s.syn x) | none => []
end Go.V
namespace Go.Proofs.YtgigigchjnnonaaDoor
open Go Go.V
-- 17: (*pith/fs.FS).Rot

-- 35: pith/fs.isName


-- 30: bytes.Clone
-- 64: fs.FS
-- 73: fs.file
-- 69: *fs.file
-- 9: string
-- 60: fs.dir
-- 5: uint8
-- 42: []uint8


section
variable {H H' : Heap} {F F' : Nat → Prop} {b mb lb hb : Nat} {pv : Value} {dv : Nat → Value} {s : St}
set_option maxHeartbeats 1600000 in
theorem F17 (h : FsP H F b mb lb hb pv dv s) (ok : Ok s) (n : Nm) (a x : Int) :
    Fun Tryd.prog 17 #[ptrOf b, .string n, .int .i64 a, .int .i64 x] H (fun r H' => r = .int .i64 (rotS s n a x).2 ∧ ∃ F', FsH H' F' b (rotS s n a x).1 ∧ Ch F F' H H') := by
  refine fun_of mixed (args := [_, _, _, _]) Tryd.func17 Tryd.ntmps17 b17 r17 rfl ?_
  obtain ⟨g0, g1, g2, g3, g4, g5, g6, g7⟩ := h.get
  simp only [go_sem, ↓reduceIte, Nat.reduceEqDiff, Nat.reduceLeDiff, Nat.reduceAdd, Nat.reduceMul, Nat.reduceSub, Nat.reduceBEq, Nat.reduceGT, Nat.reduceLT, Int.reduceLE, Int.reduceLT, Int.reduceNeg, reduceCtorEq, ptrOf]
  refine FunI.by (F35 n H) ?_
  rintro _ _ ⟨rfl, rfl⟩
  cases hn : isNm n with
  | false =>
    simp only [go_sem, ↓reduceIte, Nat.reduceEqDiff, Nat.reduceLeDiff, Nat.reduceAdd, Nat.reduceMul, Nat.reduceSub, Nat.reduceBEq, Nat.reduceGT, Nat.reduceLT, Int.reduceLE, Int.reduceLT, Int.reduceNeg, reduceCtorEq]
    have e : rotS s n a x = (s, 84) := by unfold rotS; rw [if_neg (by simp [hn])]
    rw [e]
    exact ⟨rfl, F, ⟨_, _, _, _, _, h⟩, Ch.refl _ _⟩
  | true =>
    obtain ⟨l, c, m1, m2⟩ := h.hN
    simp only [go_sem, ↓reduceIte, Nat.reduceEqDiff, Nat.reduceLeDiff, Nat.reduceAdd, Nat.reduceMul, Nat.reduceSub, Nat.reduceBEq, Nat.reduceGT, Nat.reduceLT, Int.reduceLE, Int.reduceLT, Int.reduceNeg, reduceCtorEq, g1]
    refine RunI.by (lookup_run (keyed_str (und_str ty9)) (und_map ty60) (zero_ty ty69) m1 n trivial fun _ _ => trivial) ?_
    rintro _ _ ⟨rfl, rfl⟩
    rw [m2]
    cases hf : s.now n with
    | none =>
      simp only [go_sem, ↓reduceIte, Nat.reduceEqDiff, Nat.reduceLeDiff, Nat.reduceAdd, Nat.reduceMul, Nat.reduceSub, Nat.reduceBEq, Nat.reduceGT, Nat.reduceLT, Int.reduceLE, Int.reduceLT, Int.reduceNeg, reduceCtorEq, Option.map_none, Option.getD_none]
      have e : rotS s n a x = (s, 82) := by unfold rotS; rw [if_pos hn]; simp only [hf]
      rw [e]
      exact ⟨rfl, F, ⟨_, _, _, _, _, h⟩, Ch.refl _ _⟩
    | some f =>
      have hfh := ok.nowH _ _ hf
      have hfx := h.hf f hfh
      obtain ⟨d0, d1, ⟨a', cap', hd⟩, _⟩ := hfx.at
      have hdl := dat_le ok hfh
      have hroom := ok.room
      rw [hd] at d0
      simp only [go_sem, ↓reduceIte, Nat.reduceEqDiff, Nat.reduceLeDiff, Nat.reduceAdd, Nat.reduceMul, Nat.reduceSub, Nat.reduceBEq, Nat.reduceGT, Nat.reduceLT, Int.reduceLE, Int.reduceLT, Int.reduceNeg, reduceCtorEq, Option.map_some, Option.getD_some, ptrOf, d0]
      by_cases hc : a < 0 ∨ ((s.dat f).length : Int) ≤ a ∨ x < 1 ∨ 255 < x
      · have e : rotS s n a x = (s, 85) := by unfold rotS; rw [if_pos hn]; simp only [hf]; rw [if_pos hc]
        rw [e]
        by_cases c1 : a < 0
        · simp only [go_sem, ↓reduceIte, Nat.reduceEqDiff, Nat.reduceLeDiff, Nat.reduceAdd, Nat.reduceMul, Nat.reduceSub, Nat.reduceBEq, Nat.reduceGT, Nat.reduceLT, Int.reduceLE, Int.reduceLT, Int.reduceNeg, reduceCtorEq, c1]
          exact ⟨F, ⟨_, _, _, _, _, h⟩, Ch.refl _ _⟩
        by_cases c2 : ((s.dat f).length : Int) ≤ a
        · simp only [go_sem, ↓reduceIte, Nat.reduceEqDiff, Nat.reduceLeDiff, Nat.reduceAdd, Nat.reduceMul, Nat.reduceSub, Nat.reduceBEq, Nat.reduceGT, Nat.reduceLT, Int.reduceLE, Int.reduceLT, Int.reduceNeg, reduceCtorEq, c1, c2]
          exact ⟨F, ⟨_, _, _, _, _, h⟩, Ch.refl _ _⟩
        by_cases c3 : x < 1
        · simp only [go_sem, ↓reduceIte, Nat.reduceEqDiff, Nat.reduceLeDiff, Nat.reduceAdd, Nat.reduceMul, Nat.reduceSub, Nat.reduceBEq, Nat.reduceGT, Nat.reduceLT, Int.reduceLE, Int.reduceLT, Int.reduceNeg, reduceCtorEq, c1, c2, c3]
          exact ⟨F, ⟨_, _, _, _, _, h⟩, Ch.refl _ _⟩
        have c4 : (255 : Int) < x := by omega
        simp only [go_sem, ↓reduceIte, Nat.reduceEqDiff, Nat.reduceLeDiff, Nat.reduceAdd, Nat.reduceMul, Nat.reduceSub, Nat.reduceBEq, Nat.reduceGT, Nat.reduceLT, Int.reduceLE, Int.reduceLT, Int.reduceNeg, reduceCtorEq, c1, c2, c3, c4]
        exact ⟨F, ⟨_, _, _, _, _, h⟩, Ch.refl _ _⟩
      · have e : rotS s n a x = ({ s with dat := setF s.dat f (rotD (s.dat f) a.toNat x) }, 0) := by unfold rotS; rw [if_pos hn]; simp only [hf]; rw [if_neg hc]
        have c1 : ¬ a < 0 := by omega
        have c2 : ¬ ((s.dat f).length : Int) ≤ a := by omega
        have c3 : ¬ x < 1 := by omega
        have c4 : ¬ (255 : Int) < x := by omega
        have c5 : (0 : Int) ≤ a := by omega
        have c6 : a < ((s.dat f).length : Int) := by omega
        have wx : IntKind.u8.wrap x = x := wu8_id (by omega) (by omega)
        have hlt : a.toNat < (s.dat f).length := by omega
        have ow := hfx.2.2.1
        rw [hd] at ow
        obtain ⟨gb, go, rfl⟩ := Sl.at ow.sl (by omega)
        have iw : Ints H 5 .u8 (.slice (some ⟨gb, go, none⟩) (s.dat f).length cap') (s.dat f) := ow.sl
        have gv := iw.get hlt
        obtain ⟨rfl, hcn, ow2, bt, _⟩ := ow.store hlt (.int .u8 (ibits .xor .u8 ((s.dat f).getD a.toNat 0) x))
        rw [Nat.zero_add] at hcn ow2 bt gv
        simp only [go_sem, ↓reduceIte, Nat.reduceEqDiff, Nat.reduceLeDiff, Nat.reduceAdd, Nat.reduceMul, Nat.reduceSub, Nat.reduceBEq, Nat.reduceGT, Nat.reduceLT, Int.reduceLE, Int.reduceLT, Int.reduceNeg, reduceCtorEq, d0, c1, c2, c3, c4, c5, c6, wx, Nat.mul_one, gv, hcn]
        have hfne : f ≠ gb := fun e => by
          obtain ⟨_, _, cc, hcc⟩ := ow.blk (g := gb) rfl
          rw [← e] at hcc
          exact tag_ne hfx.2.1 hcc (by decide : 73 ≠ 5) rfl
        have hxb : blk (dv f) = some gb := by rw [hd]; rfl
        obtain ⟨F', h4, ch4⟩ := h.setFile (H' := hput H gb a.toNat [.int .u8 (ibits .xor .u8 ((s.dat f).getD a.toNat 0) x)]) hfh (v' := dv f) (d' := rotD (s.dat f) a.toNat x) (sy' := s.syn f) bt.size
          (fun g hg hne hne2 => bt.get g hg fun e => by rw [hxb] at hne2; exact hne2 e) (by rw [hput_other _ _ _ _ hfne]; exact hfx.2.1)
          (by rw [hd]; unfold rotD; rw [List.map_set]; exact ow2) (.inl rfl)
        rw [setF_self, setF_self] at h4
        rw [e]
        exact ⟨rfl, rfl, F', ⟨_, _, _, _, _, h4⟩, ch4⟩
end
end Go.Proofs.YtgigigchjnnonaaDoor
