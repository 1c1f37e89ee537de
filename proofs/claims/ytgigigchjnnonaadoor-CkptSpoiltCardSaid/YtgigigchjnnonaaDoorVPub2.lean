/- Publish. -/
import Derived.Test.YtgigigchjnnonaaDoorM2
set_option linter.unusedSimpArgs false
set_option linter.unusedVariables false
set_option maxRecDepth 20000
namespace Go.V
open Go
theorem hput_push1 {H : Heap} {z a : Value} {e : TypeId} : hput (H.push (.cells #[z] e)) H.size 0 [a] = H.push (.cells #[a] e) := hput_push rfl
end Go.V
namespace Go.Proofs.YtgigigchjnnonaaDoor
open Go Go.V
-- 45: pith/files.there
-- 24: pith/files.Publish
-- 55: (*pith/fs.FS).Remove
-- 54: (*pith/fs.FS).SyncDir
-- 46: pith/files.Publish$1
-- 48: pith/files.Publish$2
-- 50: pith/files.Publish$3
-- 52: pith/files.Publish$4
-- 5: uint8
-- 42: []uint8
-- 49: [][]uint8
-- 9: string
-- 25: *fs.FS
-- 98: *files.Writer
-- 78: func() api.Errno
-- 101: []func() api.Errno
def fnP (g : Nat) (cs : List Nat) : Value := .func (.func g) #[] (cs.map ptrOf).toArray
/-- The steps, as they lie in the list. -/
def stepsV (b c4 c5 c6 c9 c11 : Nat) (cs : List Nat) : List Value :=
  fnP 46 [c4, c9, c6, c11] :: cs.map (fun c => fnP 48 [c11, c]) ++ [fnP 50 [c11], fnP 52 [c4, c9, c5], .func (.func 54) #[ptrOf b] #[]]
theorem steps_get (b c4 c5 c6 c9 c11 : Nat) (cs : List Nat) : (stepsV b c4 c5 c6 c9 c11 cs)[0]? = some (fnP 46 [c4, c9, c6, c11]) ∧ (∀ j c, 0 < j → cs[j - 1]? = some c → (stepsV b c4 c5 c6 c9 c11 cs)[j]? = some (fnP 48 [c11, c])) ∧
    (stepsV b c4 c5 c6 c9 c11 cs)[cs.length + 1]? = some (fnP 50 [c11]) ∧ (stepsV b c4 c5 c6 c9 c11 cs)[cs.length + 2]? = some (fnP 52 [c4, c9, c5]) ∧ (stepsV b c4 c5 c6 c9 c11 cs)[cs.length + 3]? = some (.func (.func 54) #[ptrOf b] #[]) := by
  unfold stepsV
  refine ⟨rfl, fun j c hj hc => ?_, ?_, ?_, ?_⟩
  · have hl := (List.getElem?_eq_some_iff.1 hc).1
    obtain ⟨k, rfl⟩ : ∃ k, j = k + 1 := ⟨j - 1, by omega⟩
    rw [Nat.add_sub_cancel] at hc hl
    rw [List.cons_append, List.getElem?_cons_succ, List.getElem?_append_left (by simpa using hl), List.getElem?_map, hc]
    rfl
  all_goals
    rw [List.cons_append, List.getElem?_cons_succ, List.getElem?_append_right (by simp)]
    simp
set_option maxHeartbeats 6400000 in
theorem F24 {H : Heap} {F : Nat → Prop} {b : Nat} {s : St} {n : Nm} {u v : Value} {hd : List Int} {vs : List Value} {l : List (List Int)} (h : FsH H F b s) (ok : Ok s) (ho : s.ops < 1000000000) (h0 : ¬ F 0) (ht : CrcTab H)
    (hu : Aw H F H.size u hd) (hv : AwL H F H.size v vs l) (hb : Byt hd) (hbl : ∀ x ∈ l, Byt x) (h1 : hd.length ≤ 1000000000) (h2 : ∀ x ∈ l, x.length ≤ 1000000000) (h3 : l.length ≤ 1000000) (hn : n.size ≤ 1000000) :
    Fun Tryd.prog 24 #[ptrOf b, .string n, u, v] H (fun r H' => ∃ f F', f ∉ s.held ∧ r = .int .i64 (pubS s n hd l f).2 ∧ FsH H' F' b (pubS s n hd l f).1 ∧ ChX (fun _ => False) F F' H H') := by
  obtain ⟨va, vc, rfl⟩ := hv.form
  obtain ⟨ua, uc, rfl⟩ := hu.1.form
  refine fun_of mixed (args := [_, _, _, _]) Tryd.func24 Tryd.ntmps24 b24 r24 rfl ?_
  have e4 : (H.push (.cells #[ptrOf b] 25)).size = H.size + 1 := by simp
  have e5 : ((H.push (.cells #[ptrOf b] 25)).push (.cells #[.string n] 9)).size = H.size + 1 + 1 := by simp
  have e6 : (((H.push (.cells #[ptrOf b] 25)).push (.cells #[.string n] 9)).push (.cells #[.slice ua hd.length uc] 42)).size = H.size + 1 + 1 + 1 := by simp
  have k4 : (((H.push (.cells #[ptrOf b] 25)).push (.cells #[.string n] 9)).push (.cells #[.slice ua hd.length uc] 42))[H.size]? = some (.cells #[ptrOf b] 25) := by
    rw [push_old (by simp; omega), push_old (by simp)]; exact push_new
  have k5 : (((H.push (.cells #[ptrOf b] 25)).push (.cells #[.string n] 9)).push (.cells #[.slice ua hd.length uc] 42))[H.size + 1]? = some (.cells #[.string n] 9) := by
    rw [push_old (by simp), ← e4]; exact push_new
  have k6 : (((H.push (.cells #[ptrOf b] 25)).push (.cells #[.string n] 9)).push (.cells #[.slice ua hd.length uc] 42))[H.size + 1 + 1]? = some (.cells #[.slice ua hd.length uc] 42) := by
    rw [← e5]; exact push_new
  have xA : Ext H (((H.push (.cells #[ptrOf b] 25)).push (.cells #[.string n] 9)).push (.cells #[.slice ua hd.length uc] 42)) := Upto.push (Upto.push (Ext.push _) (by simp) _) (by simp; omega) _
  obtain ⟨HA, hHA⟩ : ∃ HA, HA = (((H.push (.cells #[ptrOf b] 25)).push (.cells #[.string n] 9)).push (.cells #[.slice ua hd.length uc] 42)) := ⟨_, rfl⟩
  rw [← hHA] at k4 k5 k6 xA e6
  have q4 : hget HA H.size 0 = some (ptrOf b) := hget_cells k4
  have q5 : hget HA (H.size + 1) 0 = some (.string n) := hget_cells k5
  have xB : Ext HA (HA.push (.cells #[.string (tn n)] 9)) := Ext.push _
  have k9 : (HA.push (.cells #[.string (tn n)] 9))[HA.size]? = some (.cells #[.string (tn n)] 9) := push_new
  have eB : (HA.push (.cells #[.string (tn n)] 9)).size = HA.size + 1 := by simp
  obtain ⟨HB, hHB⟩ : ∃ HB, HB = HA.push (.cells #[.string (tn n)] 9) := ⟨_, rfl⟩
  rw [← hHB] at k9 xB eB
  have q4B : hget HB H.size 0 = some (ptrOf b) := hget_cells (xB.old k4)
  have q9B : hget HB HA.size 0 = some (.string (tn n)) := hget_cells k9
  simp only [ptrOf] at hHA q4 q4B
  have etn : (⟨#[116, 46]⟩ : ByteArray) ++ n = tn n := rfl
  have esz : (ByteArray.mk #[116, 46]).size + n.size ≤ 9223372036854775807 := by have : (ByteArray.mk #[116, 46]).size = 2 := rfl; omega
  simp only [go_sem, ↓reduceIte, Nat.reduceEqDiff, Nat.reduceLeDiff, Nat.reduceAdd, Nat.reduceMul, Nat.reduceSub, Nat.reduceBEq, Nat.reduceGT, Nat.reduceLT, Int.reduceLE, Int.reduceLT, Int.reduceNeg, reduceCtorEq, ptrOf, Array.size_push, ← hHA, q4, q5, etn, esz, hput_push1, ← hHB, q4B, q9B]
  refine ⟨by omega, rfl, hcan_of push_new (by simp), ?_⟩
  have xHB : Ext H HB := Upto.ext xA xA.size xB
  refine FunI.by (F45 (h.ext xHB) ok (tn n)) ?_
  rintro _ H2 ⟨rfl, x2⟩
  have x02 := Upto.ext xHB xHB.size x2
  have s2 := x2.size
  have xC : Ext H2 (H2.push (.cells #[.pointer none] 98)) := Ext.push _
  have k11 : (H2.push (.cells #[.pointer none] 98))[H2.size]? = some (.cells #[.pointer none] 98) := push_new
  have eC : (H2.push (.cells #[.pointer none] 98)).size = H2.size + 1 := by simp
  obtain ⟨HC, hHC⟩ : ∃ HC, HC = H2.push (.cells #[.pointer none] 98) := ⟨_, rfl⟩
  rw [← hHC] at k11 xC eC
  have x0C : Ext H HC := Upto.ext x02 x02.size xC
  have xBC : Ext HB HC := Upto.ext x2 x2.size xC
  have k4C := xBC.old (xB.old k4)
  have k5C := xBC.old (xB.old k5)
  have k6C := xBC.old (xB.old k6)
  have k9C := xBC.old k9
  have hsz := x0C.size
  have lFH : ∀ g, F g → g < H.size := fun g hg => by obtain ⟨_, _, _, _, _, hP⟩ := h; exact hP.lt _ hg
  have oD : V.Own (HC.push (.cells #[fnP 46 [H.size, HA.size, H.size + 1 + 1, H2.size]] 78)) HC.size 78 1 (.slice (some ⟨HC.size, 0, none⟩) 1 1) [fnP 46 [H.size, HA.size, H.size + 1 + 1, H2.size]] := Own.raw (vs := [fnP 46 [H.size, HA.size, H.size + 1 + 1, H2.size]]) push_new rfl (Nat.le_refl _) (by unfold maxLen; omega)
  have xD : Ext HC (HC.push (.cells #[fnP 46 [H.size, HA.size, H.size + 1 + 1, H2.size]] 78)) := Ext.push _
  simp only [go_sem, ↓reduceIte, Nat.reduceEqDiff, Nat.reduceLeDiff, Nat.reduceAdd, Nat.reduceMul, Nat.reduceSub, Nat.reduceBEq, Nat.reduceGT, Nat.reduceLT, Int.reduceLE, Int.reduceLT, Int.reduceNeg, reduceCtorEq, Array.size_push, ← hHC, ptrOf]
  refine LoopI.by mixed (fun ρ H' => ∃ (i : Nat) (v' : Value) (cs : List Nat), ρ 4 = ptrOf H.size ∧ ρ 5 = ptrOf (H.size + 1) ∧ ρ 9 = ptrOf HA.size ∧ ρ 10 = .bool (thereS s (tn n)) ∧ ρ 11 = ptrOf H2.size ∧ ρ 12 = v' ∧ ρ 25 = .slice va l.length vc ∧ ρ 26 = .int .i64 l.length ∧ ρ 27 = .int .i64 i ∧ i ≤ l.length ∧
      V.Own H' HC.size 78 1 v' (fnP 46 [H.size, HA.size, H.size + 1 + 1, H2.size] :: cs.map (fun c => fnP 48 [H2.size, c])) ∧ cs.length = i ∧ All2 (fun c u => H'[c]? = some (.cells #[u] 42)) cs (vs.take i) ∧ (∀ c ∈ cs, HC.size ≤ c) ∧ Ext HC H') (fun ρ _ => l.length - (iof (ρ 27)).toNat) ?_ ?_
  · exact ⟨0, _, [], by simp only [go_sem, ↓reduceIte, Nat.reduceEqDiff, Nat.reduceLeDiff, Nat.reduceAdd, Nat.reduceMul, Nat.reduceSub, Nat.reduceBEq, Nat.reduceGT, Nat.reduceLT, Int.reduceLE, Int.reduceLT, Int.reduceNeg, reduceCtorEq, ptrOf], by simp only [go_sem, ↓reduceIte, Nat.reduceEqDiff, Nat.reduceLeDiff, Nat.reduceAdd, Nat.reduceMul, Nat.reduceSub, Nat.reduceBEq, Nat.reduceGT, Nat.reduceLT, Int.reduceLE, Int.reduceLT, Int.reduceNeg, reduceCtorEq, Array.size_push, ptrOf], by simp only [go_sem, ↓reduceIte, Nat.reduceEqDiff, Nat.reduceLeDiff, Nat.reduceAdd, Nat.reduceMul, Nat.reduceSub, Nat.reduceBEq, Nat.reduceGT, Nat.reduceLT, Int.reduceLE, Int.reduceLT, Int.reduceNeg, reduceCtorEq, ptrOf], by simp only [go_sem, ↓reduceIte, Nat.reduceEqDiff, Nat.reduceLeDiff, Nat.reduceAdd, Nat.reduceMul, Nat.reduceSub, Nat.reduceBEq, Nat.reduceGT, Nat.reduceLT, Int.reduceLE, Int.reduceLT, Int.reduceNeg, reduceCtorEq], by simp only [go_sem, ↓reduceIte, Nat.reduceEqDiff, Nat.reduceLeDiff, Nat.reduceAdd, Nat.reduceMul, Nat.reduceSub, Nat.reduceBEq, Nat.reduceGT, Nat.reduceLT, Int.reduceLE, Int.reduceLT, Int.reduceNeg, reduceCtorEq, ptrOf], by simp only [go_sem, ↓reduceIte, Nat.reduceEqDiff, Nat.reduceLeDiff, Nat.reduceAdd, Nat.reduceMul, Nat.reduceSub, Nat.reduceBEq, Nat.reduceGT, Nat.reduceLT, Int.reduceLE, Int.reduceLT, Int.reduceNeg, reduceCtorEq] <;> rfl, by simp only [go_sem, ↓reduceIte, Nat.reduceEqDiff, Nat.reduceLeDiff, Nat.reduceAdd, Nat.reduceMul, Nat.reduceSub, Nat.reduceBEq, Nat.reduceGT, Nat.reduceLT, Int.reduceLE, Int.reduceLT, Int.reduceNeg, reduceCtorEq], by simp only [go_sem, ↓reduceIte, Nat.reduceEqDiff, Nat.reduceLeDiff, Nat.reduceAdd, Nat.reduceMul, Nat.reduceSub, Nat.reduceBEq, Nat.reduceGT, Nat.reduceLT, Int.reduceLE, Int.reduceLT, Int.reduceNeg, reduceCtorEq], by simp only [go_sem, ↓reduceIte, Nat.reduceEqDiff, Nat.reduceLeDiff, Nat.reduceAdd, Nat.reduceMul, Nat.reduceSub, Nat.reduceBEq, Nat.reduceGT, Nat.reduceLT, Int.reduceLE, Int.reduceLT, Int.reduceNeg, reduceCtorEq] <;> rfl, by omega, oD, rfl, trivial, (fun c hc => by cases hc), xD⟩
  rintro ρ Hh ⟨i, v', cs, e4, e5, e9, e10, e11, e12, e25, e26, e27, hi, ov, hcl, hca, hcb, xh⟩
  obtain ⟨wa, wl, wc, rfl⟩ := ov.sl.form
  have hwl : wl = i + 1 := by have := Sl.length ov.sl; simp [hcl] at this; omega
  simp only [ptrOf] at e4 e5 e9 e11
  have xHh : Ext H Hh := Upto.ext x0C x0C.size xh
  have hvv := hv.all.length
  by_cases hlt : i < l.length
  · have c0 : (0 : Int) ≤ i := by omega
    have c1 : (i : Int) < l.length := by omega
    have w1 : IntKind.i64.wrap ((i : Int) + 1) = ((i + 1 : Nat) : Int) := by rw [w64_id (by omega) (by omega)]; omega
    obtain ⟨gb, go, rfl⟩ := Sl.at hv.sl (by omega)
    have g0 := Sl.get hv.sl (i := i) (by omega)
    have g1 : hget Hh gb (go + i) = some (vs[i]'(by omega)) := by rw [xHh.hget (hget_lt (g0.trans (List.getElem?_eq_getElem (by omega)))), g0, List.getElem?_eq_getElem (by omega)]
    obtain ⟨ui, hui⟩ : ∃ z, z = vs[i]'(by omega) := ⟨_, rfl⟩
    rw [← hui] at g1
    have hui2 : vs[i]? = some ui := by rw [hui, List.getElem?_eq_getElem (by omega)]
    have ukind : ∃ a b c, ui = .slice a b c := by
      obtain ⟨p, hp, ha⟩ := All2.getL' hv.all hui2
      exact ha.1.form.elim fun a ⟨c, e⟩ => ⟨a, _, c, e⟩
    obtain ⟨uia, uib, uic, rfl⟩ := ukind
    have xE : Ext Hh (Hh.push (.cells #[.slice uia uib uic] 42)) := Ext.push _
    have kE : (Hh.push (.cells #[.slice uia uib uic] 42))[Hh.size]? = some (.cells #[.slice uia uib uic] 42) := push_new
    have eE : (Hh.push (.cells #[.slice uia uib uic] 42)).size = Hh.size + 1 := by simp
    obtain ⟨HE, hHE⟩ : ∃ HE, HE = Hh.push (.cells #[.slice uia uib uic] 42) := ⟨_, rfl⟩
    rw [← hHE] at kE xE eE
    have xhE : Ext HC HE := Upto.ext xh xh.size xE
    simp only [c24_L0, go_sem, ↓reduceIte, Nat.reduceEqDiff, Nat.reduceLeDiff, Nat.reduceAdd, Nat.reduceMul, Nat.reduceSub, Nat.reduceBEq, Nat.reduceGT, Nat.reduceLT, Int.reduceLE, Int.reduceLT, Int.reduceNeg, reduceCtorEq, e4, e5, e9, e10, e11, e12, e25, e26, e27, c0, c1, Int.toNat_natCast, g1, hput_push1, ← hHE]
    refine ⟨rfl, hcan_of push_new (by simp), ?_⟩
    refine RunI.by (append_lit ty101 ty78 rfl (by decide) (ov.ext xE) (ys := [fnP 48 [H2.size, Hh.size]]) (m := 1) rfl rfl (n := i + 2) (by simp [hcl]) (by omega) (by omega) xhE.size) ?_
    rintro v2 HG ⟨o2, gr, _⟩
    have tg : ∀ g (c : Array Value) (e : TypeId), HE[g]? = some (Obj.cells c e) → e ≠ 78 → HG[g]? = some (Obj.cells c e) := fun g c e hg hne => by
      rw [gr.but.get g (Array.getElem?_eq_some_iff.1 hg).1 fun e9 => ?_]
      · exact hg
      · obtain ⟨_, _, c', hc'⟩ := (ov.ext xE).blk e9.symm
        rw [hg] at hc'
        simp only [Option.some.injEq, Obj.cells.injEq] at hc'
        exact hne hc'.2.1
    have xCG : Ext HC HG := Upto.trans xhE (gr.upto (ov.ext xE) xhE.size)
    simp only [go_sem, ↓reduceIte, Nat.reduceEqDiff, Nat.reduceLeDiff, Nat.reduceAdd, Nat.reduceMul, Nat.reduceSub, Nat.reduceBEq, Nat.reduceGT, Nat.reduceLT, Int.reduceLE, Int.reduceLT, Int.reduceNeg, reduceCtorEq, e4, e5, e9, e10, e11, e25, e26, e27, w1]
    refine ⟨Hold.mk ⟨i + 1, v2, cs ++ [Hh.size], by simp only [go_sem, ↓reduceIte, Nat.reduceEqDiff, Nat.reduceLeDiff, Nat.reduceAdd, Nat.reduceMul, Nat.reduceSub, Nat.reduceBEq, Nat.reduceGT, Nat.reduceLT, Int.reduceLE, Int.reduceLT, Int.reduceNeg, reduceCtorEq, e4, ptrOf], by simp only [go_sem, ↓reduceIte, Nat.reduceEqDiff, Nat.reduceLeDiff, Nat.reduceAdd, Nat.reduceMul, Nat.reduceSub, Nat.reduceBEq, Nat.reduceGT, Nat.reduceLT, Int.reduceLE, Int.reduceLT, Int.reduceNeg, reduceCtorEq, e5, ptrOf], by simp only [go_sem, ↓reduceIte, Nat.reduceEqDiff, Nat.reduceLeDiff, Nat.reduceAdd, Nat.reduceMul, Nat.reduceSub, Nat.reduceBEq, Nat.reduceGT, Nat.reduceLT, Int.reduceLE, Int.reduceLT, Int.reduceNeg, reduceCtorEq, e9, ptrOf], by simp only [go_sem, ↓reduceIte, Nat.reduceEqDiff, Nat.reduceLeDiff, Nat.reduceAdd, Nat.reduceMul, Nat.reduceSub, Nat.reduceBEq, Nat.reduceGT, Nat.reduceLT, Int.reduceLE, Int.reduceLT, Int.reduceNeg, reduceCtorEq, e10], by simp only [go_sem, ↓reduceIte, Nat.reduceEqDiff, Nat.reduceLeDiff, Nat.reduceAdd, Nat.reduceMul, Nat.reduceSub, Nat.reduceBEq, Nat.reduceGT, Nat.reduceLT, Int.reduceLE, Int.reduceLT, Int.reduceNeg, reduceCtorEq, e11, ptrOf], by simp only [go_sem, ↓reduceIte, Nat.reduceEqDiff, Nat.reduceLeDiff, Nat.reduceAdd, Nat.reduceMul, Nat.reduceSub, Nat.reduceBEq, Nat.reduceGT, Nat.reduceLT, Int.reduceLE, Int.reduceLT, Int.reduceNeg, reduceCtorEq], by simp only [go_sem, ↓reduceIte, Nat.reduceEqDiff, Nat.reduceLeDiff, Nat.reduceAdd, Nat.reduceMul, Nat.reduceSub, Nat.reduceBEq, Nat.reduceGT, Nat.reduceLT, Int.reduceLE, Int.reduceLT, Int.reduceNeg, reduceCtorEq, e25], by simp only [go_sem, ↓reduceIte, Nat.reduceEqDiff, Nat.reduceLeDiff, Nat.reduceAdd, Nat.reduceMul, Nat.reduceSub, Nat.reduceBEq, Nat.reduceGT, Nat.reduceLT, Int.reduceLE, Int.reduceLT, Int.reduceNeg, reduceCtorEq, e26], by simp only [go_sem, ↓reduceIte, Nat.reduceEqDiff, Nat.reduceLeDiff, Nat.reduceAdd, Nat.reduceMul, Nat.reduceSub, Nat.reduceBEq, Nat.reduceGT, Nat.reduceLT, Int.reduceLE, Int.reduceLT, Int.reduceNeg, reduceCtorEq], by omega, ?_, by simp [hcl], ?_, ?_, xCG⟩, by omega⟩
    · rw [List.map_append, List.map_cons, List.map_nil, ← List.cons_append]; exact o2
    · rw [List.take_succ_eq_append_getElem (show i < vs.length by omega), ← hui]
      exact All2.snoc (R := fun (c : Nat) (u : Value) => HG[c]? = some (Obj.cells #[u] 42)) (tg _ #[_] 42 kE (by decide)) (hca.mono fun c u hc => tg c #[u] 42 (xE.old hc) (by decide))
    · intro c hc
      rcases List.mem_append.1 hc with hc | hc
      · exact hcb c hc
      · have : c = Hh.size := by simpa using hc
        subst this
        exact xh.size
  · have c1 : ¬ (i : Int) < l.length := by omega
    have ei : i = l.length := by omega
    subst ei
    rw [List.take_of_length_le (by omega)] at hca
    have k4h := xh.old k4C
    have q4h : hget Hh H.size 0 = some (ptrOf b) := hget_cells k4h
    simp only [ptrOf] at q4h
    simp only [c24_L0, go_sem, ↓reduceIte, Nat.reduceEqDiff, Nat.reduceLeDiff, Nat.reduceAdd, Nat.reduceMul, Nat.reduceSub, Nat.reduceBEq, Nat.reduceGT, Nat.reduceLT, Int.reduceLE, Int.reduceLT, Int.reduceNeg, reduceCtorEq, e4, e5, e9, e10, e11, e12, e25, e26, e27, c1, q4h]
    refine RunI.by (append_lit ty101 ty78 rfl (by decide) ov (ys := [fnP 50 [H2.size], fnP 52 [H.size, HA.size, H.size + 1], .func (.func 54) #[ptrOf b] #[]]) (m := 3) rfl rfl (n := l.length + 4) (by simp [hcl]) (by omega) (by omega) xh.size) ?_
    rintro v2 HG ⟨o2, gr, _⟩
    have tg : ∀ g (c : Array Value) (e : TypeId), Hh[g]? = some (Obj.cells c e) → e ≠ 78 → HG[g]? = some (Obj.cells c e) := fun g c e hg hne => by
      rw [gr.but.get g (Array.getElem?_eq_some_iff.1 hg).1 fun e9 => ?_]
      · exact hg
      · obtain ⟨_, _, c', hc'⟩ := ov.blk e9.symm
        rw [hg] at hc'
        simp only [Option.some.injEq, Obj.cells.injEq] at hc'
        exact hne hc'.2.1
    have xCG : Ext HC HG := Upto.trans xh (gr.upto ov xh.size)
    have x0G : Ext H HG := Upto.ext x0C x0C.size xCG
    have hcaG : All2 (fun c u => HG[c]? = some (.cells #[u] 42)) cs vs := hca.mono fun c u hc => tg c #[u] 42 hc (by decide)
    have o3 : V.Own HG HC.size 78 1 v2 (stepsV b H.size (H.size + 1) (H.size + 1 + 1) HA.size H2.size cs) := by
      unfold stepsV
      exact o2
    have hfl : (stepsV b H.size (H.size + 1) (H.size + 1 + 1) HA.size H2.size cs).length = l.length + 4 := by unfold stepsV; simp [hcl]
    obtain ⟨ga, gl, gc, rfl⟩ := o3.sl.form
    have hgl : gl = l.length + 4 := by have := Sl.length o3.sl; rw [hfl] at this; omega
    subst hgl
    obtain ⟨gb, go, rfl⟩ := Sl.at o3.sl (by omega)
    have hgbB := (o3.blk (g := gb) rfl).1
    have hgbl := (o3.blk (g := gb) rfl).2.1
    clear o2 gr tg
    simp only [go_sem, ↓reduceIte, Nat.reduceEqDiff, Nat.reduceLeDiff, Nat.reduceAdd, Nat.reduceMul, Nat.reduceSub, Nat.reduceBEq, Nat.reduceGT, Nat.reduceLT, Int.reduceLE, Int.reduceLT, Int.reduceNeg, reduceCtorEq, e4, e5, e9, e10, e11]
    have hsG := xCG.size
    -- what there is when the steps begin
    refine LoopI.by mixed (fun ρ H' => ∃ (j : Nat) (F' : Nat → Prop) (p : Pb), ρ 4 = ptrOf H.size ∧ ρ 5 = ptrOf (H.size + 1) ∧ ρ 9 = ptrOf HA.size ∧ ρ 10 = .bool (thereS s (tn n)) ∧ ρ 11 = ptrOf H2.size ∧ ρ 43 = .slice (some ⟨gb, go, none⟩) (l.length + 4) gc ∧ ρ 44 = .int .i64 ((l.length + 4 : Nat) : Int) ∧ ρ 45 = .int .i64 j ∧ j ≤ l.length + 4 ∧
      FsH H' F' b p.s ∧ Ok p.s ∧ p.s.ops ≤ s.ops + 2 * j ∧ 0 ≤ p.w.size ∧ p.w.size ≤ 1036 * j ∧ 0 ≤ p.w.data ∧ p.w.data ≤ j ∧ ChX (· = H2.size) F F' HG H' ∧
      (if j = 0 then p = ⟨s, newW (tn n)⟩ ∧ H'[H2.size]? = some (.cells #[.pointer none] 98) else ∃ w, H'[H2.size]? = some (.cells #[ptrOf w] 98) ∧ HG.size ≤ w ∧ ¬ F' w ∧ WrH H' w b p.w) ∧
      ∃ f, f ∉ s.held ∧ (0 < j → goP n hd l f (thereS s (tn n)) (l.length + 4) 0 ⟨s, newW (tn n)⟩ = goP n hd l f (thereS s (tn n)) (l.length + 4 - j) j p)) (fun ρ _ => l.length + 4 - (iof (ρ 45)).toNat) ?_ ?_
    · refine ⟨0, F, ⟨s, newW (tn n)⟩, by simp only [go_sem, ↓reduceIte, Nat.reduceEqDiff, Nat.reduceLeDiff, Nat.reduceAdd, Nat.reduceMul, Nat.reduceSub, Nat.reduceBEq, Nat.reduceGT, Nat.reduceLT, Int.reduceLE, Int.reduceLT, Int.reduceNeg, reduceCtorEq, e4, ptrOf], by simp only [go_sem, ↓reduceIte, Nat.reduceEqDiff, Nat.reduceLeDiff, Nat.reduceAdd, Nat.reduceMul, Nat.reduceSub, Nat.reduceBEq, Nat.reduceGT, Nat.reduceLT, Int.reduceLE, Int.reduceLT, Int.reduceNeg, reduceCtorEq, e5, ptrOf], by simp only [go_sem, ↓reduceIte, Nat.reduceEqDiff, Nat.reduceLeDiff, Nat.reduceAdd, Nat.reduceMul, Nat.reduceSub, Nat.reduceBEq, Nat.reduceGT, Nat.reduceLT, Int.reduceLE, Int.reduceLT, Int.reduceNeg, reduceCtorEq, e9, ptrOf], by simp only [go_sem, ↓reduceIte, Nat.reduceEqDiff, Nat.reduceLeDiff, Nat.reduceAdd, Nat.reduceMul, Nat.reduceSub, Nat.reduceBEq, Nat.reduceGT, Nat.reduceLT, Int.reduceLE, Int.reduceLT, Int.reduceNeg, reduceCtorEq, e10], by simp only [go_sem, ↓reduceIte, Nat.reduceEqDiff, Nat.reduceLeDiff, Nat.reduceAdd, Nat.reduceMul, Nat.reduceSub, Nat.reduceBEq, Nat.reduceGT, Nat.reduceLT, Int.reduceLE, Int.reduceLT, Int.reduceNeg, reduceCtorEq, e11, ptrOf], by simp only [go_sem, ↓reduceIte, Nat.reduceEqDiff, Nat.reduceLeDiff, Nat.reduceAdd, Nat.reduceMul, Nat.reduceSub, Nat.reduceBEq, Nat.reduceGT, Nat.reduceLT, Int.reduceLE, Int.reduceLT, Int.reduceNeg, reduceCtorEq], by simp only [go_sem, ↓reduceIte, Nat.reduceEqDiff, Nat.reduceLeDiff, Nat.reduceAdd, Nat.reduceMul, Nat.reduceSub, Nat.reduceBEq, Nat.reduceGT, Nat.reduceLT, Int.reduceLE, Int.reduceLT, Int.reduceNeg, reduceCtorEq], by simp only [go_sem, ↓reduceIte, Nat.reduceEqDiff, Nat.reduceLeDiff, Nat.reduceAdd, Nat.reduceMul, Nat.reduceSub, Nat.reduceBEq, Nat.reduceGT, Nat.reduceLT, Int.reduceLE, Int.reduceLT, Int.reduceNeg, reduceCtorEq] <;> rfl, by omega, h.ext x0G, ok, by simp, by simp [newW], by simp [newW], by simp [newW], by simp [newW], ChX.refl _ _ _, ?_, ?_⟩
      · rw [if_pos rfl]; exact ⟨rfl, xCG.old k11⟩
      · exact ⟨H.size, fun e => by
          obtain ⟨_, _, _, _, _, hP⟩ := h
          have := hP.lt _ (hP.hf _ e).1
          omega, fun e => absurd e (by omega)⟩
    rintro ρ HH ⟨j, F', p, r4, r5, r9, r10, r11, r43, r44, r45, hj, hfs, okp, hop, hz1, hz2, hd1, hd2, cx, hw, f, hf, hgo⟩
    simp only [ptrOf] at r4 r5 r9 r11
    have hwlt : ∀ w, HG.size ≤ w → w ≠ H2.size := fun w hw => by omega
    have nF0 : ∀ g, H.size ≤ g → g < HG.size → ¬ F' g := fun g g1 g2 => cx.not g2 fun e => by have := lFH g e; omega
    have kp : ∀ g (c : Array Value) (e : TypeId), HG[g]? = some (Obj.cells c e) → H.size ≤ g → g ≠ H2.size → HH[g]? = some (Obj.cells c e) := fun g c e hg g1 g2 => cx.keep hg (fun e => by have := lFH g e; omega) g2
    have k4' := kp _ _ _ (xCG.old k4C) (by omega) (by omega)
    have k5' := kp _ _ _ (xCG.old k5C) (by omega) (by omega)
    have k6' := kp _ _ _ (xCG.old k6C) (by omega) (by omega)
    have k9' := kp _ _ _ (xCG.old k9C) (by omega) (by omega)
    have h0lt : 0 < H.size := by obtain ⟨t, fr, ht⟩ := ht; exact (Array.getElem?_eq_some_iff.1 ht).1
    have cxH : ChX (· = H2.size) F F' H HH := x0G.chx.trans cx
    have n0 : ¬ F' 0 := cxH.not h0lt h0
    have t0 : CrcTab HH := cxH.crc ht h0 (by omega)
    have huH := hu.keep cxH (fun g e => by have : g = H2.size := e; omega) (Nat.le_refl _)
    have hvH := hv.keep cxH (fun g e => by have : g = H2.size := e; omega) (Nat.le_refl _)
    have hszH := cxH.size
    by_cases hlj : j < l.length + 4
    · have c0 : (0 : Int) ≤ (j : Int) := by omega
      have c1 : (j : Int) < ((l.length + 4 : Nat) : Int) := by omega
      have w1 : IntKind.i64.wrap ((j : Int) + 1) = ((j + 1 : Nat) : Int) := by rw [w64_id (by omega) (by omega)]; omega
      have g0 := Sl.get o3.sl (i := j) (by omega)
      have g1 : hget HH gb (go + j) = (stepsV b H.size (H.size + 1) (H.size + 1 + 1) HA.size H2.size cs)[j]? := by
        rw [← g0]
        unfold hget
        rw [cx.get gb hgbl (fun e => by have := lFH gb e; omega) (by show gb ≠ H2.size; omega)]
      have goS : ∀ f, goP n hd l f (thereS s (tn n)) (l.length + 4 - j) j p = if (stepP n hd l f j p).2 = 0 then goP n hd l f (thereS s (tn n)) (l.length + 4 - (j + 1)) (j + 1) (stepP n hd l f j p).1 else failS (stepP n hd l f j p).1.s (tn n) (thereS s (tn n)) (stepP n hd l f j p).2 := fun f => by
        rw [show l.length + 4 - j = (l.length + 4 - (j + 1)) + 1 by omega]
        rfl
      obtain ⟨sg0, sg1, sg2, sg3, sg4⟩ := steps_get b H.size (H.size + 1) (H.size + 1 + 1) HA.size H2.size cs
      rw [hcl] at sg2 sg3 sg4
      rcases (by omega : j = 0 ∨ (0 < j ∧ j ≤ l.length) ∨ j = l.length + 1 ∨ j = l.length + 2 ∨ j = l.length + 3) with j0 | ⟨j1, j2⟩ | j3 | j4 | j5
      case' inl =>
        rw [if_pos j0] at hw
        obtain ⟨hp0, k11'⟩ := hw
        subst hp0
        rw [show (stepsV b H.size (H.size + 1) (H.size + 1 + 1) HA.size H2.size cs)[j]? = some (.func (.func 46) #[] #[ptrOf H.size, ptrOf HA.size, ptrOf (H.size + 1 + 1), ptrOf H2.size]) by rw [j0]; exact sg0] at g1
        simp only [ptrOf] at g1
        clear hgo hf f
        simp only [c24_L0, c24_L1, go_sem, ↓reduceIte, Nat.reduceEqDiff, Nat.reduceLeDiff, Nat.reduceAdd, Nat.reduceMul, Nat.reduceSub, Nat.reduceBEq, Nat.reduceGT, Nat.reduceLT, Int.reduceLE, Int.reduceLT, Int.reduceNeg, reduceCtorEq, r4, r5, r9, r10, r11, r43, r44, r45, c0, c1, Int.toNat_natCast, g1]
        refine FunI.by (F46 hfs okp (by simp only at hop ⊢; omega) n0 t0 huH.1 hb (by omega) (huH.2.imp id fun q g hg => ⟨(q g hg).1, by have := (q g hg).2; omega⟩) k4' k9' k6' k11' (nF0 _ (by omega) (by omega))) ?_
        rintro _ HI ⟨f, hf, rfl, FI, hI, cxI, hwI⟩
        have eS : stepP n hd l f j ⟨s, newW (tn n)⟩ = (⟨(beginW s (tn n) f hd).1, (beginW s (tn n) f hd).2.1⟩, (beginW s (tn n) f hd).2.2) := by unfold stepP; rw [if_pos j0]
        have hg := goS f
        have hg0 : goP n hd l f (thereS s (tn n)) (l.length + 4) 0 ⟨s, newW (tn n)⟩ = goP n hd l f (thereS s (tn n)) (l.length + 4 - j) j ⟨s, newW (tn n)⟩ := by rw [j0]; rfl
        rw [hg] at hg0
        have okS := stepP_ok (n := n) (l := l) (j := j) (p := ⟨s, newW (tn n)⟩) okp (fun _ => hf) hb hbl
        have opS := stepP_ops n hd l f j ⟨s, newW (tn n)⟩
        have bz := begin_size s (tn n) f hd
        have szS : 0 ≤ (stepP n hd l f j ⟨s, newW (tn n)⟩).1.w.size ∧ (stepP n hd l f j ⟨s, newW (tn n)⟩).1.w.size ≤ 1036 * ((j : Nat) : Int) + 1036 ∧ 0 ≤ (stepP n hd l f j ⟨s, newW (tn n)⟩).1.w.data ∧ (stepP n hd l f j ⟨s, newW (tn n)⟩).1.w.data ≤ ((j : Nat) : Int) + 1 := by rw [eS]; simp only; omega
        have hwS : (stepP n hd l f j ⟨s, newW (tn n)⟩).2 = 0 → ∃ w, HI[H2.size]? = some (.cells #[ptrOf w] 98) ∧ HG.size ≤ w ∧ ¬ FI w ∧ WrH HI w b (stepP n hd l f j ⟨s, newW (tn n)⟩).1.w := fun e => by
          rw [eS] at e ⊢
          obtain ⟨w, w1, w2, w3, w4⟩ := hwI e
          exact ⟨w, w1, Nat.le_trans cx.size w2, w3, w4⟩
        have hI' : FsH HI FI b (stepP n hd l f j ⟨s, newW (tn n)⟩).1.s := by rw [eS]; exact hI
        have eE : (beginW s (tn n) f hd).2.2 = (stepP n hd l f j ⟨s, newW (tn n)⟩).2 := by rw [eS]
        rw [eE]
        have cxS : ChX (· = H2.size) F FI HG HI := cx.trans cxI
        generalize stepP n hd l f j ⟨s, newW (tn n)⟩ = q at *
      case' inr.inl =>
        have hg := goS f
        rw [← hgo j1] at hg
        have hg0 := hg
        rw [if_neg (by omega)] at hw
        obtain ⟨w, k11', hwG, hwF, hwr⟩ := hw
        obtain ⟨cc, hcc⟩ : ∃ cc, cs[j - 1]? = some cc := ⟨_, List.getElem?_eq_getElem (by omega)⟩
        obtain ⟨uu, huu, kcc⟩ := All2.getL' hcaG hcc
        obtain ⟨pp, hpp, haw⟩ := All2.getL' hvH.all huu
        have hpl : pp = l.getD (j - 1) [] := by rw [List.getD_eq_getElem?_getD, hpp]; rfl
        have hpm : pp ∈ l := List.mem_of_getElem? hpp
        have hccB := hcb cc (List.mem_of_getElem? hcc)
        rw [show (stepsV b H.size (H.size + 1) (H.size + 1 + 1) HA.size H2.size cs)[j]? = some (.func (.func 48) #[] #[ptrOf H2.size, ptrOf cc]) from sg1 j cc j1 hcc] at g1
        simp only [ptrOf] at g1
        simp only [c24_L0, c24_L1, go_sem, ↓reduceIte, Nat.reduceEqDiff, Nat.reduceLeDiff, Nat.reduceAdd, Nat.reduceMul, Nat.reduceSub, Nat.reduceBEq, Nat.reduceGT, Nat.reduceLT, Int.reduceLE, Int.reduceLT, Int.reduceNeg, reduceCtorEq, r4, r5, r9, r10, r11, r43, r44, r45, c0, c1, Int.toNat_natCast, g1]
        have hpl2 := h2 pp hpm
        refine FunI.by (F48 hfs okp (by omega) hwr hwF n0 t0 haw.1 (hbl pp hpm) (by omega) (haw.2.imp id fun q g hg => ⟨(q g hg).1, by have := (q g hg).2; omega⟩) (by omega) (by omega) k11' (kp _ _ _ kcc (by omega) (by omega))) ?_
        rintro _ HI ⟨rfl, FI, hI, hwI, cxI⟩
        have eS : stepP n hd l f j p = (⟨(putW p.s p.w pp).1, (putW p.s p.w pp).2.1⟩, (putW p.s p.w pp).2.2) := by unfold stepP; rw [if_neg (by omega), if_pos j2, ← hpl]
        have okS := stepP_ok (n := n) (l := l) (f := f) (j := j) okp (fun e => by omega) hb hbl
        have opS := stepP_ops n hd l f j p
        have bz := putW_size p.s p.w pp
        have szS : 0 ≤ (stepP n hd l f j p).1.w.size ∧ (stepP n hd l f j p).1.w.size ≤ 1036 * ((j : Nat) : Int) + 1036 ∧ 0 ≤ (stepP n hd l f j p).1.w.data ∧ (stepP n hd l f j p).1.w.data ≤ ((j : Nat) : Int) + 1 := by rw [eS]; simp only; omega
        have hwlt2 := (Array.getElem?_eq_some_iff.1 hwr).1
        have hwS : (stepP n hd l f j p).2 = 0 → ∃ w, HI[H2.size]? = some (.cells #[ptrOf w] 98) ∧ HG.size ≤ w ∧ ¬ FI w ∧ WrH HI w b (stepP n hd l f j p).1.w := fun e => by
          rw [eS]
          exact ⟨w, cxI.keep k11' (nF0 _ (by omega) (by omega)) (by show H2.size ≠ w; omega), hwG, cxI.not hwlt2 hwF, hwI⟩
        have hI' : FsH HI FI b (stepP n hd l f j p).1.s := by rw [eS]; exact hI
        have eE : (putW p.s p.w pp).2.2 = (stepP n hd l f j p).2 := by rw [eS]
        rw [eE]
        have cxS : ChX (· = H2.size) F FI HG HI := by
          have := (cx.mono (Y := fun g => g = H2.size ∨ g = w) (fun g e => .inl e)).trans (cxI.mono (Y := fun g => g = H2.size ∨ g = w) (fun g e => .inr e))
          exact ⟨this.size, this.old, fun g g1 g2 g3 => this.get g g1 g2 (by rintro (e | e); exact g3 e; omega)⟩
        generalize stepP n hd l f j p = q at *
      case' inr.inr.inl =>
        have hg := goS f
        rw [← hgo (by omega)] at hg
        have hg0 := hg
        rw [if_neg (by omega)] at hw
        obtain ⟨w, k11', hwG, hwF, hwr⟩ := hw
        rw [show (stepsV b H.size (H.size + 1) (H.size + 1 + 1) HA.size H2.size cs)[j]? = some (.func (.func 50) #[] #[ptrOf H2.size]) by rw [j3]; exact sg2] at g1
        simp only [ptrOf] at g1
        simp only [c24_L0, c24_L1, go_sem, ↓reduceIte, Nat.reduceEqDiff, Nat.reduceLeDiff, Nat.reduceAdd, Nat.reduceMul, Nat.reduceSub, Nat.reduceBEq, Nat.reduceGT, Nat.reduceLT, Int.reduceLE, Int.reduceLT, Int.reduceNeg, reduceCtorEq, r4, r5, r9, r10, r11, r43, r44, r45, c0, c1, Int.toNat_natCast, g1]
        refine FunI.by (F50 hfs okp (by omega) hwr hwF n0 t0 (by omega) (by omega) k11') ?_
        rintro _ HI ⟨rfl, FI, hI, hwI, cxI⟩
        have eS : stepP n hd l f j p = (⟨(endW p.s p.w true).1, (endW p.s p.w true).2.1⟩, (endW p.s p.w true).2.2.2.2) := by unfold stepP; rw [if_neg (by omega), if_neg (by omega), if_pos j3]
        have okS := stepP_ok (n := n) (l := l) (f := f) (j := j) okp (fun e => by omega) hb hbl
        have opS := stepP_ops n hd l f j p
        have bz : p.w.size ≤ (endW p.s p.w true).2.1.size ∧ (endW p.s p.w true).2.1.size ≤ p.w.size + 1036 ∧ (endW p.s p.w true).2.1.data = p.w.data := by
          have b1 := putS_size p.s p.w 3 (be4 p.w.data)
          have b2 := (putS_data p.s p.w 3 (be4 p.w.data)).1
          unfold endW
          split
          · exact ⟨Int.le_refl _, by simp only; omega, rfl⟩
          · exact ⟨b1.1, b1.2, b2⟩
        have szS : 0 ≤ (stepP n hd l f j p).1.w.size ∧ (stepP n hd l f j p).1.w.size ≤ 1036 * ((j : Nat) : Int) + 1036 ∧ 0 ≤ (stepP n hd l f j p).1.w.data ∧ (stepP n hd l f j p).1.w.data ≤ ((j : Nat) : Int) + 1 := by rw [eS]; simp only; omega
        have hwlt2 := (Array.getElem?_eq_some_iff.1 hwr).1
        have hwS : (stepP n hd l f j p).2 = 0 → ∃ w, HI[H2.size]? = some (.cells #[ptrOf w] 98) ∧ HG.size ≤ w ∧ ¬ FI w ∧ WrH HI w b (stepP n hd l f j p).1.w := fun e => by
          rw [eS]
          exact ⟨w, cxI.keep k11' (nF0 _ (by omega) (by omega)) (by show H2.size ≠ w; omega), hwG, cxI.not hwlt2 hwF, hwI⟩
        have hI' : FsH HI FI b (stepP n hd l f j p).1.s := by rw [eS]; exact hI
        have eE : (endW p.s p.w true).2.2.2.2 = (stepP n hd l f j p).2 := by rw [eS]
        rw [eE]
        have cxS : ChX (· = H2.size) F FI HG HI := by
          have := (cx.mono (Y := fun g => g = H2.size ∨ g = w) (fun g e => .inl e)).trans (cxI.mono (Y := fun g => g = H2.size ∨ g = w) (fun g e => .inr e))
          exact ⟨this.size, this.old, fun g g1 g2 g3 => this.get g g1 g2 (by rintro (e | e); exact g3 e; omega)⟩
        generalize stepP n hd l f j p = q at *
      case' inr.inr.inr.inl =>
        have hg := goS f
        rw [← hgo (by omega)] at hg
        have hg0 := hg
        rw [if_neg (by omega)] at hw
        obtain ⟨w, k11', hwG, hwF, hwr⟩ := hw
        rw [show (stepsV b H.size (H.size + 1) (H.size + 1 + 1) HA.size H2.size cs)[j]? = some (.func (.func 52) #[] #[ptrOf H.size, ptrOf HA.size, ptrOf (H.size + 1)]) by rw [j4]; exact sg3] at g1
        simp only [ptrOf] at g1
        simp only [c24_L0, c24_L1, go_sem, ↓reduceIte, Nat.reduceEqDiff, Nat.reduceLeDiff, Nat.reduceAdd, Nat.reduceMul, Nat.reduceSub, Nat.reduceBEq, Nat.reduceGT, Nat.reduceLT, Int.reduceLE, Int.reduceLT, Int.reduceNeg, reduceCtorEq, r4, r5, r9, r10, r11, r43, r44, r45, c0, c1, Int.toNat_natCast, g1]
        refine FunI.by (F52 hfs okp (by omega) k4' k9' k5') ?_
        rintro _ HI ⟨rfl, FI, hI, cxI⟩
        have eS : stepP n hd l f j p = (⟨(renameS p.s (tn n) n).1, p.w⟩, (renameS p.s (tn n) n).2) := by unfold stepP; rw [if_neg (by omega), if_neg (by omega), if_neg (by omega), if_pos j4]
        have okS := stepP_ok (n := n) (l := l) (f := f) (j := j) okp (fun e => by omega) hb hbl
        have opS := stepP_ops n hd l f j p
        have szS : 0 ≤ (stepP n hd l f j p).1.w.size ∧ (stepP n hd l f j p).1.w.size ≤ 1036 * ((j : Nat) : Int) + 1036 ∧ 0 ≤ (stepP n hd l f j p).1.w.data ∧ (stepP n hd l f j p).1.w.data ≤ ((j : Nat) : Int) + 1 := by rw [eS]; simp only; omega
        have hwlt2 := (Array.getElem?_eq_some_iff.1 hwr).1
        have cxI' : ChX (fun _ => False) F' FI HH HI := cxI.chx
        have hwS : (stepP n hd l f j p).2 = 0 → ∃ w, HI[H2.size]? = some (.cells #[ptrOf w] 98) ∧ HG.size ≤ w ∧ ¬ FI w ∧ WrH HI w b (stepP n hd l f j p).1.w := fun e => by
          rw [eS]
          exact ⟨w, cxI'.keep k11' (nF0 _ (by omega) (by omega)) (fun e => e), hwG, cxI'.not hwlt2 hwF, cxI'.keep hwr hwF (fun e => e)⟩
        have hI' : FsH HI FI b (stepP n hd l f j p).1.s := by rw [eS]; exact hI
        have eE : (renameS p.s (tn n) n).2 = (stepP n hd l f j p).2 := by rw [eS]
        rw [eE]
        have cxS : ChX (· = H2.size) F FI HG HI := cx.trans cxI.chx
        generalize stepP n hd l f j p = q at *
      case' inr.inr.inr.inr =>
        have hg := goS f
        rw [← hgo (by omega)] at hg
        have hg0 := hg
        rw [if_neg (by omega)] at hw
        obtain ⟨w, k11', hwG, hwF, hwr⟩ := hw
        rw [show (stepsV b H.size (H.size + 1) (H.size + 1 + 1) HA.size H2.size cs)[j]? = some (.func (.func 54) #[ptrOf b] #[]) by rw [j5]; exact sg4] at g1
        simp only [ptrOf] at g1
        simp only [c24_L0, c24_L1, go_sem, ↓reduceIte, Nat.reduceEqDiff, Nat.reduceLeDiff, Nat.reduceAdd, Nat.reduceMul, Nat.reduceSub, Nat.reduceBEq, Nat.reduceGT, Nat.reduceLT, Int.reduceLE, Int.reduceLT, Int.reduceNeg, reduceCtorEq, r4, r5, r9, r10, r11, r43, r44, r45, c0, c1, Int.toNat_natCast, g1]
        obtain ⟨_, _, _, _, _, hPp⟩ := hfs
        refine FunI.by (F54 hPp okp (by omega)) ?_
        rintro _ HI ⟨rfl, FI, hI, cxI⟩
        have eS : stepP n hd l f j p = (⟨(syncDirS p.s).1, p.w⟩, (syncDirS p.s).2) := by unfold stepP; rw [if_neg (by omega), if_neg (by omega), if_neg (by omega), if_neg (by omega)]
        have okS := stepP_ok (n := n) (l := l) (f := f) (j := j) okp (fun e => by omega) hb hbl
        have opS := stepP_ops n hd l f j p
        have szS : 0 ≤ (stepP n hd l f j p).1.w.size ∧ (stepP n hd l f j p).1.w.size ≤ 1036 * ((j : Nat) : Int) + 1036 ∧ 0 ≤ (stepP n hd l f j p).1.w.data ∧ (stepP n hd l f j p).1.w.data ≤ ((j : Nat) : Int) + 1 := by rw [eS]; simp only; omega
        have hwlt2 := (Array.getElem?_eq_some_iff.1 hwr).1
        have cxI' : ChX (fun _ => False) F' FI HH HI := cxI.chx
        have hwS : (stepP n hd l f j p).2 = 0 → ∃ w, HI[H2.size]? = some (.cells #[ptrOf w] 98) ∧ HG.size ≤ w ∧ ¬ FI w ∧ WrH HI w b (stepP n hd l f j p).1.w := fun e => by
          rw [eS]
          exact ⟨w, cxI'.keep k11' (nF0 _ (by omega) (by omega)) (fun e => e), hwG, cxI'.not hwlt2 hwF, cxI'.keep hwr hwF (fun e => e)⟩
        have hI' : FsH HI FI b (stepP n hd l f j p).1.s := by rw [eS]; exact hI
        have eE : (syncDirS p.s).2 = (stepP n hd l f j p).2 := by rw [eS]
        rw [eE]
        have cxS : ChX (· = H2.size) F FI HG HI := cx.trans cxI.chx
        generalize stepP n hd l f j p = q at *
      all_goals
        obtain ⟨_, _, _, _, _, hPI⟩ := hI'
        have hI9 : FsH HI FI b q.1.s := ⟨_, _, _, _, _, hPI⟩
        have kpI : ∀ g (c : Array Value) (e : TypeId), HG[g]? = some (Obj.cells c e) → H.size ≤ g → g ≠ H2.size → HI[g]? = some (Obj.cells c e) := fun g c e hg g1 g2 => cxS.keep hg (fun e => by have := lFH g e; omega) g2
        have cxF : ChX (fun _ => False) F FI H HI := by
          have := (x0G.chx (X := (· = H2.size)) (F := F)).trans cxS
          exact ⟨this.size, this.old, fun g g1 g2 _ => this.get g g1 g2 (by show g ≠ H2.size; omega)⟩
        have q4' : hget HI H.size 0 = some (ptrOf b) := hget_cells (kpI _ _ _ (xCG.old k4C) (by omega) (by omega))
        have q9' : hget HI HA.size 0 = some (.string (tn n)) := hget_cells (kpI _ _ _ (xCG.old k9C) (by omega) (by omega))
        simp only [ptrOf] at q4'
        by_cases c : q.2 = 0
        · rw [if_pos c] at hg0
          simp only [go_sem, ↓reduceIte, Nat.reduceEqDiff, Nat.reduceLeDiff, Nat.reduceAdd, Nat.reduceMul, Nat.reduceSub, Nat.reduceBEq, Nat.reduceGT, Nat.reduceLT, Int.reduceLE, Int.reduceLT, Int.reduceNeg, reduceCtorEq, c, r4, r5, r9, r10, r11, r43, r44, r45, w1]
          refine ⟨Hold.mk ⟨j + 1, FI, q.1, by simp only [go_sem, ↓reduceIte, Nat.reduceEqDiff, Nat.reduceLeDiff, Nat.reduceAdd, Nat.reduceMul, Nat.reduceSub, Nat.reduceBEq, Nat.reduceGT, Nat.reduceLT, Int.reduceLE, Int.reduceLT, Int.reduceNeg, reduceCtorEq, r4, ptrOf], by simp only [go_sem, ↓reduceIte, Nat.reduceEqDiff, Nat.reduceLeDiff, Nat.reduceAdd, Nat.reduceMul, Nat.reduceSub, Nat.reduceBEq, Nat.reduceGT, Nat.reduceLT, Int.reduceLE, Int.reduceLT, Int.reduceNeg, reduceCtorEq, r5, ptrOf], by simp only [go_sem, ↓reduceIte, Nat.reduceEqDiff, Nat.reduceLeDiff, Nat.reduceAdd, Nat.reduceMul, Nat.reduceSub, Nat.reduceBEq, Nat.reduceGT, Nat.reduceLT, Int.reduceLE, Int.reduceLT, Int.reduceNeg, reduceCtorEq, r9, ptrOf], by simp only [go_sem, ↓reduceIte, Nat.reduceEqDiff, Nat.reduceLeDiff, Nat.reduceAdd, Nat.reduceMul, Nat.reduceSub, Nat.reduceBEq, Nat.reduceGT, Nat.reduceLT, Int.reduceLE, Int.reduceLT, Int.reduceNeg, reduceCtorEq, r10], by simp only [go_sem, ↓reduceIte, Nat.reduceEqDiff, Nat.reduceLeDiff, Nat.reduceAdd, Nat.reduceMul, Nat.reduceSub, Nat.reduceBEq, Nat.reduceGT, Nat.reduceLT, Int.reduceLE, Int.reduceLT, Int.reduceNeg, reduceCtorEq, r11, ptrOf], by simp only [go_sem, ↓reduceIte, Nat.reduceEqDiff, Nat.reduceLeDiff, Nat.reduceAdd, Nat.reduceMul, Nat.reduceSub, Nat.reduceBEq, Nat.reduceGT, Nat.reduceLT, Int.reduceLE, Int.reduceLT, Int.reduceNeg, reduceCtorEq, r43], by simp only [go_sem, ↓reduceIte, Nat.reduceEqDiff, Nat.reduceLeDiff, Nat.reduceAdd, Nat.reduceMul, Nat.reduceSub, Nat.reduceBEq, Nat.reduceGT, Nat.reduceLT, Int.reduceLE, Int.reduceLT, Int.reduceNeg, reduceCtorEq, r44], by simp only [go_sem, ↓reduceIte, Nat.reduceEqDiff, Nat.reduceLeDiff, Nat.reduceAdd, Nat.reduceMul, Nat.reduceSub, Nat.reduceBEq, Nat.reduceGT, Nat.reduceLT, Int.reduceLE, Int.reduceLT, Int.reduceNeg, reduceCtorEq], by omega, hI9, okS, by first | omega | (simp only at opS hop ⊢; omega), by omega, by omega, by omega, by omega, cxS, ?_, f, hf, fun _ => hg0⟩, by omega⟩
          rw [if_neg (by omega)]
          exact hwS c
        rw [if_neg c] at hg0
        have hpub : pubS s n hd l f = failS q.1.s (tn n) (thereS s (tn n)) q.2 := hg0
        by_cases c81 : q.2 = 81
        · have hF : pubS s n hd l f = (q.1.s, q.2) := by rw [hpub]; unfold failS; rw [if_neg (fun e => e.1 c81)]
          simp only [go_sem, ↓reduceIte, Nat.reduceEqDiff, Nat.reduceLeDiff, Nat.reduceAdd, Nat.reduceMul, Nat.reduceSub, Nat.reduceBEq, Nat.reduceGT, Nat.reduceLT, Int.reduceLE, Int.reduceLT, Int.reduceNeg, reduceCtorEq, c81, Int.reduceEq, r4, r5, r9, r10, r11, r43, r44, r45]
          exact ⟨f, FI, hf, by rw [hF, c81], by rw [hF]; exact hI9, cxF⟩
        cases hwas : thereS s (tn n) with
        | true =>
          have hF : pubS s n hd l f = (q.1.s, q.2) := by rw [hpub]; unfold failS; rw [if_neg (fun e => by rw [hwas] at e; exact absurd e.2.1 (by decide))]
          rw [hwas] at r10
          simp only [go_sem, ↓reduceIte, Nat.reduceEqDiff, Nat.reduceLeDiff, Nat.reduceAdd, Nat.reduceMul, Nat.reduceSub, Nat.reduceBEq, Nat.reduceGT, Nat.reduceLT, Int.reduceLE, Int.reduceLT, Int.reduceNeg, reduceCtorEq, c, c81, r4, r5, r9, r10, r11, r43, r44, r45]
          exact ⟨f, FI, hf, by rw [hF], by rw [hF]; exact hI9, cxF⟩
        | false =>
          rw [hwas] at r10 hpub
          simp only [go_sem, ↓reduceIte, Nat.reduceEqDiff, Nat.reduceLeDiff, Nat.reduceAdd, Nat.reduceMul, Nat.reduceSub, Nat.reduceBEq, Nat.reduceGT, Nat.reduceLT, Int.reduceLE, Int.reduceLT, Int.reduceNeg, reduceCtorEq, c, c81, r4, r5, r9, r10, r11, r43, r44, r45, q4', q9']
          refine FunI.by (F45 hI9 okS (tn n)) ?_
          rintro _ HJ ⟨rfl, xJ⟩
          have q4J : hget HJ H.size 0 = some (.pointer (some ⟨b, 0, none⟩)) := (xJ.hget (hget_lt q4')).trans q4'
          have q9J : hget HJ HA.size 0 = some (.string (tn n)) := (xJ.hget (hget_lt q9')).trans q9'
          cases hth : thereS q.1.s (tn n) with
          | false =>
            have hF : pubS s n hd l f = (q.1.s, q.2) := by rw [hpub]; unfold failS; rw [if_neg (fun e => by rw [hth] at e; exact absurd e.2.2 (by decide))]
            simp only [go_sem, ↓reduceIte, Nat.reduceEqDiff, Nat.reduceLeDiff, Nat.reduceAdd, Nat.reduceMul, Nat.reduceSub, Nat.reduceBEq, Nat.reduceGT, Nat.reduceLT, Int.reduceLE, Int.reduceLT, Int.reduceNeg, reduceCtorEq, r4, r9]
            exact ⟨f, FI, hf, by rw [hF], by rw [hF]; exact hI9.ext xJ, cxF.trans xJ.chx⟩
          | true =>
            have hF : pubS s n hd l f = ((removeS q.1.s (tn n)).1, if (removeS q.1.s (tn n)).2 = 81 then 81 else q.2) := by rw [hpub]; unfold failS; rw [if_pos ⟨c81, rfl, hth⟩]
            simp only [go_sem, ↓reduceIte, Nat.reduceEqDiff, Nat.reduceLeDiff, Nat.reduceAdd, Nat.reduceMul, Nat.reduceSub, Nat.reduceBEq, Nat.reduceGT, Nat.reduceLT, Int.reduceLE, Int.reduceLT, Int.reduceNeg, reduceCtorEq, r4, r9, q4J, q9J]
            refine FunI.by (F55 (hPI.ext xJ) okS (by first | omega | (simp only at opS hop ⊢; omega)) (tn n)) ?_
            rintro _ HK ⟨rfl, FK, hK, chK⟩
            have cxK : ChX (fun _ => False) F FK H HK := (cxF.trans xJ.chx).trans chK.chx
            by_cases cr : (removeS q.1.s (tn n)).2 = 81
            · rw [if_pos cr] at hF
              simp only [go_sem, ↓reduceIte, Nat.reduceEqDiff, Nat.reduceLeDiff, Nat.reduceAdd, Nat.reduceMul, Nat.reduceSub, Nat.reduceBEq, Nat.reduceGT, Nat.reduceLT, Int.reduceLE, Int.reduceLT, Int.reduceNeg, reduceCtorEq, cr]
              exact ⟨f, FK, hf, by rw [hF], by rw [hF]; exact hK, cxK⟩
            · rw [if_neg cr] at hF
              simp only [go_sem, ↓reduceIte, Nat.reduceEqDiff, Nat.reduceLeDiff, Nat.reduceAdd, Nat.reduceMul, Nat.reduceSub, Nat.reduceBEq, Nat.reduceGT, Nat.reduceLT, Int.reduceLE, Int.reduceLT, Int.reduceNeg, reduceCtorEq, cr]
              exact ⟨f, FK, hf, by rw [hF], by rw [hF]; exact hK, cxK⟩
    · have c1 : ¬ (j : Int) < ((l.length + 4 : Nat) : Int) := by omega
      have ej : j = l.length + 4 := by omega
      subst ej
      simp only [c24_L0, c24_L1, go_sem, ↓reduceIte, Nat.reduceEqDiff, Nat.reduceLeDiff, Nat.reduceAdd, Nat.reduceMul, Nat.reduceSub, Nat.reduceBEq, Nat.reduceGT, Nat.reduceLT, Int.reduceLE, Int.reduceLT, Int.reduceNeg, reduceCtorEq, r4, r5, r9, r10, r11, r43, r44, r45, c1]
      have hg := hgo (by omega)
      rw [show l.length + 4 - (l.length + 4) = 0 by omega] at hg
      have hpub : pubS s n hd l f = (p.s, 0) := hg
      refine ⟨f, F', hf, by rw [hpub], by rw [hpub]; exact hfs, ⟨cxH.size, cxH.old, fun g g1 g2 _ => cxH.get g g1 g2 (by show g ≠ H2.size; omega)⟩⟩
end Go.Proofs.YtgigigchjnnonaaDoor
