/- Publish. ckpt.fits, ckpt.Save, ckpt.Load. The laws' fitting: a checkpoint, and degrees that it fits. Bursts: bits turned within 32 places leave no sum as it was. Files that are cut off or spoilt: plainly. Files added where nothing fails; slices that stand away from a file system. What the laws of checkpoints share: no file, nothing loaded; what fitting makes may be; a second file system stands. A Publish where the power stays on: whole, or no room. The directory behind a crash; names, rising. slices.Sorted(maps.Keys(m)), by the shelf's contracts. -/
import Derived.Test.YtgigigchjnnonaaGreatDoorVPub
import Derived.Test.YtgigigchjnnonaaGreatDoorVFsE
import Derived.Test.YtgigigchjnnonaaGreatDoorVCkP
import Derived.Test.YtgigigchjnnonaaGreatDoorM1
import Derived.Test.YtgigigchjnnonaaGreatDoorVSet9
import Derived.Test.YtgigigchjnnonaaGreatDoorVPubP
set_option linter.unusedSimpArgs false
set_option linter.unusedVariables false
set_option maxRecDepth 20000
namespace Go.V
open Go
theorem hput_push1 {H : Heap} {z a : Value} {e : TypeId} : hput (H.push (.cells #[z] e)) H.size 0 [a] = H.push (.cells #[a] e) := hput_push rfl
end Go.V
namespace Go.Proofs.YtgigigchjnnonaaGreatDoor
open Go Go.V
def fnP (g : Nat) (cs : List Nat) : Value := .func (.func g) #[] (cs.map ptrOf).toArray
/-- The steps, as they lie in the list. -/
def stepsV (b c4 c5 c6 c9 c11 : Nat) (cs : List Nat) : List Value :=
  fnP 88 [c4, c9, c6, c11] :: cs.map (fun c => fnP 90 [c11, c]) ++ [fnP 92 [c11], fnP 94 [c4, c9, c5], .func (.func 70) #[ptrOf b] #[]]
theorem steps_get (b c4 c5 c6 c9 c11 : Nat) (cs : List Nat) : (stepsV b c4 c5 c6 c9 c11 cs)[0]? = some (fnP 88 [c4, c9, c6, c11]) ∧ (∀ j c, 0 < j → cs[j - 1]? = some c → (stepsV b c4 c5 c6 c9 c11 cs)[j]? = some (fnP 90 [c11, c])) ∧
    (stepsV b c4 c5 c6 c9 c11 cs)[cs.length + 1]? = some (fnP 92 [c11]) ∧ (stepsV b c4 c5 c6 c9 c11 cs)[cs.length + 2]? = some (fnP 94 [c4, c9, c5]) ∧ (stepsV b c4 c5 c6 c9 c11 cs)[cs.length + 3]? = some (.func (.func 70) #[ptrOf b] #[]) := by
  unfold stepsV
  refine ⟨rfl, fun j c hj hc => ?_, ?_, ?_, ?_⟩
  · have hl := (List.getElem?_eq_some_iff.1 hc).1
    obtain ⟨k, rfl⟩ : ∃ k, j = k + 1 := ⟨j - 1, by omega⟩
    rw [Nat.add_sub_cancel] at hc hl
    rw [List.cons_append, List.getElem?_cons_succ, List.getElem?_append_left (by simpa using hl), List.getElem?_map, hc]
    rfl
  all_goals
    rw [List.cons_append, List.getElem?_cons_succ, List.getElem?_append_right (by simp)]
    simp
set_option maxHeartbeats 6400000 in
theorem F34 {H : Heap} {F : Nat → Prop} {b : Nat} {s : St} {n : Nm} {u v : Value} {hd : List Int} {vs : List Value} {l : List (List Int)} (h : FsH H F b s) (ok : Ok s) (ho : s.ops < 1000000000) (h0 : ¬ F 0) (ht : CrcTab H)
    (hu : Aw H F H.size u hd) (hv : AwL H F H.size v vs l) (hb : Byt hd) (hbl : ∀ x ∈ l, Byt x) (h1 : hd.length ≤ 1000000000) (h2 : ∀ x ∈ l, x.length ≤ 1000000000) (h3 : l.length ≤ 1000000) (hn : n.size ≤ 1000000) :
    Fun Tryz.prog 34 #[ptrOf b, .string n, u, v] H (fun r H' => ∃ f F', f ∉ s.held ∧ r = .int .i64 (pubS s n hd l f).2 ∧ FsH H' F' b (pubS s n hd l f).1 ∧ ChX (fun _ => False) F F' H H') := by
  obtain ⟨va, vc, rfl⟩ := hv.form
  obtain ⟨ua, uc, rfl⟩ := hu.1.form
  refine fun_of mixed (args := [_, _, _, _]) Tryz.func34 Tryz.ntmps34 b34 r34 rfl ?_
  have e4 : (H.push (.cells #[ptrOf b] 25)).size = H.size + 1 := by simp
  have e5 : ((H.push (.cells #[ptrOf b] 25)).push (.cells #[.string n] 9)).size = H.size + 1 + 1 := by simp
  have e6 : (((H.push (.cells #[ptrOf b] 25)).push (.cells #[.string n] 9)).push (.cells #[.slice ua hd.length uc] 53)).size = H.size + 1 + 1 + 1 := by simp
  have k4 : (((H.push (.cells #[ptrOf b] 25)).push (.cells #[.string n] 9)).push (.cells #[.slice ua hd.length uc] 53))[H.size]? = some (.cells #[ptrOf b] 25) := by
    rw [push_old (by simp; omega), push_old (by simp)]; exact push_new
  have k5 : (((H.push (.cells #[ptrOf b] 25)).push (.cells #[.string n] 9)).push (.cells #[.slice ua hd.length uc] 53))[H.size + 1]? = some (.cells #[.string n] 9) := by
    rw [push_old (by simp), ← e4]; exact push_new
  have k6 : (((H.push (.cells #[ptrOf b] 25)).push (.cells #[.string n] 9)).push (.cells #[.slice ua hd.length uc] 53))[H.size + 1 + 1]? = some (.cells #[.slice ua hd.length uc] 53) := by
    rw [← e5]; exact push_new
  have xA : Ext H (((H.push (.cells #[ptrOf b] 25)).push (.cells #[.string n] 9)).push (.cells #[.slice ua hd.length uc] 53)) := Upto.push (Upto.push (Ext.push _) (by simp) _) (by simp; omega) _
  obtain ⟨HA, hHA⟩ : ∃ HA, HA = (((H.push (.cells #[ptrOf b] 25)).push (.cells #[.string n] 9)).push (.cells #[.slice ua hd.length uc] 53)) := ⟨_, rfl⟩
  rw [← hHA] at k4 k5 k6 xA e6
  have q4 : hget HA H.size 0 = some (ptrOf b) := hget_cells k4
  have q5 : hget HA (H.size + 1) 0 = some (.string n) := hget_cells k5
  have xB : Ext HA (HA.push (.cells #[.string (tn n)] 9)) := Ext.push _
  have k9 : (HA.push (.cells #[.string (tn n)] 9))[HA.size]? = some (.cells #[.string (tn n)] 9) := push_new
  have eB : (HA.push (.cells #[.string (tn n)] 9)).size = HA.size + 1 := by simp
  obtain ⟨HB, hHB⟩ : ∃ HB, HB = HA.push (.cells #[.string (tn n)] 9) := ⟨_, rfl⟩
  rw [← hHB] at k9 xB eB
  have q4B : hget HB H.size 0 = some (ptrOf b) := hget_cells (xB.old k4)
  have q9B : hget HB HA.size 0 = some (.string (tn n)) := hget_cells k9
  simp only [ptrOf] at hHA q4 q4B
  have etn : (⟨#[116, 46]⟩ : ByteArray) ++ n = tn n := rfl
  have esz : (ByteArray.mk #[116, 46]).size + n.size ≤ 9223372036854775807 := by have : (ByteArray.mk #[116, 46]).size = 2 := rfl; omega
  simp only [go_sem, ↓reduceIte, Nat.reduceEqDiff, Nat.reduceLeDiff, Nat.reduceAdd, Nat.reduceMul, Nat.reduceSub, Nat.reduceBEq, Nat.reduceGT, Nat.reduceLT, Int.reduceLE, Int.reduceLT, Int.reduceNeg, reduceCtorEq, ptrOf, Array.size_push, ← hHA, q4, q5, etn, esz, hput_push1, ← hHB, q4B, q9B]
  refine ⟨by omega, rfl, hcan_of push_new (by simp), ?_⟩
  have xHB : Ext H HB := Upto.ext xA xA.size xB
  refine FunI.by (F87 (h.ext xHB) ok (tn n)) ?_
  rintro _ H2 ⟨rfl, x2⟩
  have x02 := Upto.ext xHB xHB.size x2
  have s2 := x2.size
  have xC : Ext H2 (H2.push (.cells #[.pointer none] 141)) := Ext.push _
  have k11 : (H2.push (.cells #[.pointer none] 141))[H2.size]? = some (.cells #[.pointer none] 141) := push_new
  have eC : (H2.push (.cells #[.pointer none] 141)).size = H2.size + 1 := by simp
  obtain ⟨HC, hHC⟩ : ∃ HC, HC = H2.push (.cells #[.pointer none] 141) := ⟨_, rfl⟩
  rw [← hHC] at k11 xC eC
  have x0C : Ext H HC := Upto.ext x02 x02.size xC
  have xBC : Ext HB HC := Upto.ext x2 x2.size xC
  have k4C := xBC.old (xB.old k4)
  have k5C := xBC.old (xB.old k5)
  have k6C := xBC.old (xB.old k6)
  have k9C := xBC.old k9
  have hsz := x0C.size
  have lFH : ∀ g, F g → g < H.size := fun g hg => by obtain ⟨_, _, _, _, _, hP⟩ := h; exact hP.lt _ hg
  have oD : V.Own (HC.push (.cells #[fnP 88 [H.size, HA.size, H.size + 1 + 1, H2.size]] 134)) HC.size 134 1 (.slice (some ⟨HC.size, 0, none⟩) 1 1) [fnP 88 [H.size, HA.size, H.size + 1 + 1, H2.size]] := Own.raw (vs := [fnP 88 [H.size, HA.size, H.size + 1 + 1, H2.size]]) push_new rfl (Nat.le_refl _) (by unfold maxLen; omega)
  have xD : Ext HC (HC.push (.cells #[fnP 88 [H.size, HA.size, H.size + 1 + 1, H2.size]] 134)) := Ext.push _
  simp only [go_sem, ↓reduceIte, Nat.reduceEqDiff, Nat.reduceLeDiff, Nat.reduceAdd, Nat.reduceMul, Nat.reduceSub, Nat.reduceBEq, Nat.reduceGT, Nat.reduceLT, Int.reduceLE, Int.reduceLT, Int.reduceNeg, reduceCtorEq, Array.size_push, ← hHC, ptrOf]
  refine LoopI.by mixed (fun ρ H' => ∃ (i : Nat) (v' : Value) (cs : List Nat), ρ 4 = ptrOf H.size ∧ ρ 5 = ptrOf (H.size + 1) ∧ ρ 9 = ptrOf HA.size ∧ ρ 10 = .bool (thereS s (tn n)) ∧ ρ 11 = ptrOf H2.size ∧ ρ 12 = v' ∧ ρ 25 = .slice va l.length vc ∧ ρ 26 = .int .i64 l.length ∧ ρ 27 = .int .i64 i ∧ i ≤ l.length ∧
      V.Own H' HC.size 134 1 v' (fnP 88 [H.size, HA.size, H.size + 1 + 1, H2.size] :: cs.map (fun c => fnP 90 [H2.size, c])) ∧ cs.length = i ∧ All2 (fun c u => H'[c]? = some (.cells #[u] 53)) cs (vs.take i) ∧ (∀ c ∈ cs, HC.size ≤ c) ∧ Ext HC H') (fun ρ _ => l.length - (iof (ρ 27)).toNat) ?_ ?_
  · exact ⟨0, _, [], by simp only [go_sem, ↓reduceIte, Nat.reduceEqDiff, Nat.reduceLeDiff, Nat.reduceAdd, Nat.reduceMul, Nat.reduceSub, Nat.reduceBEq, Nat.reduceGT, Nat.reduceLT, Int.reduceLE, Int.reduceLT, Int.reduceNeg, reduceCtorEq, ptrOf], by simp only [go_sem, ↓reduceIte, Nat.reduceEqDiff, Nat.reduceLeDiff, Nat.reduceAdd, Nat.reduceMul, Nat.reduceSub, Nat.reduceBEq, Nat.reduceGT, Nat.reduceLT, Int.reduceLE, Int.reduceLT, Int.reduceNeg, reduceCtorEq, Array.size_push, ptrOf], by simp only [go_sem, ↓reduceIte, Nat.reduceEqDiff, Nat.reduceLeDiff, Nat.reduceAdd, Nat.reduceMul, Nat.reduceSub, Nat.reduceBEq, Nat.reduceGT, Nat.reduceLT, Int.reduceLE, Int.reduceLT, Int.reduceNeg, reduceCtorEq, ptrOf], by simp only [go_sem, ↓reduceIte, Nat.reduceEqDiff, Nat.reduceLeDiff, Nat.reduceAdd, Nat.reduceMul, Nat.reduceSub, Nat.reduceBEq, Nat.reduceGT, Nat.reduceLT, Int.reduceLE, Int.reduceLT, Int.reduceNeg, reduceCtorEq], by simp only [go_sem, ↓reduceIte, Nat.reduceEqDiff, Nat.reduceLeDiff, Nat.reduceAdd, Nat.reduceMul, Nat.reduceSub, Nat.reduceBEq, Nat.reduceGT, Nat.reduceLT, Int.reduceLE, Int.reduceLT, Int.reduceNeg, reduceCtorEq, ptrOf], by simp only [go_sem, ↓reduceIte, Nat.reduceEqDiff, Nat.reduceLeDiff, Nat.reduceAdd, Nat.reduceMul, Nat.reduceSub, Nat.reduceBEq, Nat.reduceGT, Nat.reduceLT, Int.reduceLE, Int.reduceLT, Int.reduceNeg, reduceCtorEq] <;> rfl, by simp only [go_sem, ↓reduceIte, Nat.reduceEqDiff, Nat.reduceLeDiff, Nat.reduceAdd, Nat.reduceMul, Nat.reduceSub, Nat.reduceBEq, Nat.reduceGT, Nat.reduceLT, Int.reduceLE, Int.reduceLT, Int.reduceNeg, reduceCtorEq], by simp only [go_sem, ↓reduceIte, Nat.reduceEqDiff, Nat.reduceLeDiff, Nat.reduceAdd, Nat.reduceMul, Nat.reduceSub, Nat.reduceBEq, Nat.reduceGT, Nat.reduceLT, Int.reduceLE, Int.reduceLT, Int.reduceNeg, reduceCtorEq], by simp only [go_sem, ↓reduceIte, Nat.reduceEqDiff, Nat.reduceLeDiff, Nat.reduceAdd, Nat.reduceMul, Nat.reduceSub, Nat.reduceBEq, Nat.reduceGT, Nat.reduceLT, Int.reduceLE, Int.reduceLT, Int.reduceNeg, reduceCtorEq] <;> rfl, by omega, oD, rfl, trivial, (fun c hc => by cases hc), xD⟩
  rintro ρ Hh ⟨i, v', cs, e4, e5, e9, e10, e11, e12, e25, e26, e27, hi, ov, hcl, hca, hcb, xh⟩
  obtain ⟨wa, wl, wc, rfl⟩ := ov.sl.form
  have hwl : wl = i + 1 := by have := Sl.length ov.sl; simp [hcl] at this; omega
  simp only [ptrOf] at e4 e5 e9 e11
  have xHh : Ext H Hh := Upto.ext x0C x0C.size xh
  have hvv := hv.all.length
  by_cases hlt : i < l.length
  · have c0 : (0 : Int) ≤ i := by omega
    have c1 : (i : Int) < l.length := by omega
    have w1 : IntKind.i64.wrap ((i : Int) + 1) = ((i + 1 : Nat) : Int) := by rw [w64_id (by omega) (by omega)]; omega
    obtain ⟨gb, go, rfl⟩ := Sl.at hv.sl (by omega)
    have g0 := Sl.get hv.sl (i := i) (by omega)
    have g1 : hget Hh gb (go + i) = some (vs[i]'(by omega)) := by rw [xHh.hget (hget_lt (g0.trans (List.getElem?_eq_getElem (by omega)))), g0, List.getElem?_eq_getElem (by omega)]
    obtain ⟨ui, hui⟩ : ∃ z, z = vs[i]'(by omega) := ⟨_, rfl⟩
    rw [← hui] at g1
    have hui2 : vs[i]? = some ui := by rw [hui, List.getElem?_eq_getElem (by omega)]
    have ukind : ∃ a b c, ui = .slice a b c := by
      obtain ⟨p, hp, ha⟩ := All2.getL' hv.all hui2
      exact ha.1.form.elim fun a ⟨c, e⟩ => ⟨a, _, c, e⟩
    obtain ⟨uia, uib, uic, rfl⟩ := ukind
    have xE : Ext Hh (Hh.push (.cells #[.slice uia uib uic] 53)) := Ext.push _
    have kE : (Hh.push (.cells #[.slice uia uib uic] 53))[Hh.size]? = some (.cells #[.slice uia uib uic] 53) := push_new
    have eE : (Hh.push (.cells #[.slice uia uib uic] 53)).size = Hh.size + 1 := by simp
    obtain ⟨HE, hHE⟩ : ∃ HE, HE = Hh.push (.cells #[.slice uia uib uic] 53) := ⟨_, rfl⟩
    rw [← hHE] at kE xE eE
    have xhE : Ext HC HE := Upto.ext xh xh.size xE
    simp only [c34_L0, go_sem, ↓reduceIte, Nat.reduceEqDiff, Nat.reduceLeDiff, Nat.reduceAdd, Nat.reduceMul, Nat.reduceSub, Nat.reduceBEq, Nat.reduceGT, Nat.reduceLT, Int.reduceLE, Int.reduceLT, Int.reduceNeg, reduceCtorEq, e4, e5, e9, e10, e11, e12, e25, e26, e27, c0, c1, Int.toNat_natCast, g1, hput_push1, ← hHE]
    refine ⟨rfl, hcan_of push_new (by simp), ?_⟩
    refine RunI.by (append_lit ty144 ty134 rfl (by decide) (ov.ext xE) (ys := [fnP 90 [H2.size, Hh.size]]) (m := 1) rfl rfl (n := i + 2) (by simp [hcl]) (by omega) (by omega) xhE.size) ?_
    rintro v2 HG ⟨o2, gr, _⟩
    have tg : ∀ g (c : Array Value) (e : TypeId), HE[g]? = some (Obj.cells c e) → e ≠ 134 → HG[g]? = some (Obj.cells c e) := fun g c e hg hne => by
      rw [gr.but.get g (Array.getElem?_eq_some_iff.1 hg).1 fun e9 => ?_]
      · exact hg
      · obtain ⟨_, _, c', hc'⟩ := (ov.ext xE).blk e9.symm
        rw [hg] at hc'
        simp only [Option.some.injEq, Obj.cells.injEq] at hc'
        exact hne hc'.2.1
    have xCG : Ext HC HG := Upto.trans xhE (gr.upto (ov.ext xE) xhE.size)
    simp only [go_sem, ↓reduceIte, Nat.reduceEqDiff, Nat.reduceLeDiff, Nat.reduceAdd, Nat.reduceMul, Nat.reduceSub, Nat.reduceBEq, Nat.reduceGT, Nat.reduceLT, Int.reduceLE, Int.reduceLT, Int.reduceNeg, reduceCtorEq, e4, e5, e9, e10, e11, e25, e26, e27, w1]
    refine ⟨Hold.mk ⟨i + 1, v2, cs ++ [Hh.size], by simp only [go_sem, ↓reduceIte, Nat.reduceEqDiff, Nat.reduceLeDiff, Nat.reduceAdd, Nat.reduceMul, Nat.reduceSub, Nat.reduceBEq, Nat.reduceGT, Nat.reduceLT, Int.reduceLE, Int.reduceLT, Int.reduceNeg, reduceCtorEq, e4, ptrOf], by simp only [go_sem, ↓reduceIte, Nat.reduceEqDiff, Nat.reduceLeDiff, Nat.reduceAdd, Nat.reduceMul, Nat.reduceSub, Nat.reduceBEq, Nat.reduceGT, Nat.reduceLT, Int.reduceLE, Int.reduceLT, Int.reduceNeg, reduceCtorEq, e5, ptrOf], by simp only [go_sem, ↓reduceIte, Nat.reduceEqDiff, Nat.reduceLeDiff, Nat.reduceAdd, Nat.reduceMul, Nat.reduceSub, Nat.reduceBEq, Nat.reduceGT, Nat.reduceLT, Int.reduceLE, Int.reduceLT, Int.reduceNeg, reduceCtorEq, e9, ptrOf], by simp only [go_sem, ↓reduceIte, Nat.reduceEqDiff, Nat.reduceLeDiff, Nat.reduceAdd, Nat.reduceMul, Nat.reduceSub, Nat.reduceBEq, Nat.reduceGT, Nat.reduceLT, Int.reduceLE, Int.reduceLT, Int.reduceNeg, reduceCtorEq, e10], by simp only [go_sem, ↓reduceIte, Nat.reduceEqDiff, Nat.reduceLeDiff, Nat.reduceAdd, Nat.reduceMul, Nat.reduceSub, Nat.reduceBEq, Nat.reduceGT, Nat.reduceLT, Int.reduceLE, Int.reduceLT, Int.reduceNeg, reduceCtorEq, e11, ptrOf], by simp only [go_sem, ↓reduceIte, Nat.reduceEqDiff, Nat.reduceLeDiff, Nat.reduceAdd, Nat.reduceMul, Nat.reduceSub, Nat.reduceBEq, Nat.reduceGT, Nat.reduceLT, Int.reduceLE, Int.reduceLT, Int.reduceNeg, reduceCtorEq], by simp only [go_sem, ↓reduceIte, Nat.reduceEqDiff, Nat.reduceLeDiff, Nat.reduceAdd, Nat.reduceMul, Nat.reduceSub, Nat.reduceBEq, Nat.reduceGT, Nat.reduceLT, Int.reduceLE, Int.reduceLT, Int.reduceNeg, reduceCtorEq, e25], by simp only [go_sem, ↓reduceIte, Nat.reduceEqDiff, Nat.reduceLeDiff, Nat.reduceAdd, Nat.reduceMul, Nat.reduceSub, Nat.reduceBEq, Nat.reduceGT, Nat.reduceLT, Int.reduceLE, Int.reduceLT, Int.reduceNeg, reduceCtorEq, e26], by simp only [go_sem, ↓reduceIte, Nat.reduceEqDiff, Nat.reduceLeDiff, Nat.reduceAdd, Nat.reduceMul, Nat.reduceSub, Nat.reduceBEq, Nat.reduceGT, Nat.reduceLT, Int.reduceLE, Int.reduceLT, Int.reduceNeg, reduceCtorEq], by omega, ?_, by simp [hcl], ?_, ?_, xCG⟩, by omega⟩
    · rw [List.map_append, List.map_cons, List.map_nil, ← List.cons_append]; exact o2
    · rw [List.take_succ_eq_append_getElem (show i < vs.length by omega), ← hui]
      exact All2.snoc (R := fun (c : Nat) (u : Value) => HG[c]? = some (Obj.cells #[u] 53)) (tg _ #[_] 53 kE (by decide)) (hca.mono fun c u hc => tg c #[u] 53 (xE.old hc) (by decide))
    · intro c hc
      rcases List.mem_append.1 hc with hc | hc
      · exact hcb c hc
      · have : c = Hh.size := by simpa using hc
        subst this
        exact xh.size
  · have c1 : ¬ (i : Int) < l.length := by omega
    have ei : i = l.length := by omega
    subst ei
    rw [List.take_of_length_le (by omega)] at hca
    have k4h := xh.old k4C
    have q4h : hget Hh H.size 0 = some (ptrOf b) := hget_cells k4h
    simp only [ptrOf] at q4h
    simp only [c34_L0, go_sem, ↓reduceIte, Nat.reduceEqDiff, Nat.reduceLeDiff, Nat.reduceAdd, Nat.reduceMul, Nat.reduceSub, Nat.reduceBEq, Nat.reduceGT, Nat.reduceLT, Int.reduceLE, Int.reduceLT, Int.reduceNeg, reduceCtorEq, e4, e5, e9, e10, e11, e12, e25, e26, e27, c1, q4h]
    refine RunI.by (append_lit ty144 ty134 rfl (by decide) ov (ys := [fnP 92 [H2.size], fnP 94 [H.size, HA.size, H.size + 1], .func (.func 70) #[ptrOf b] #[]]) (m := 3) rfl rfl (n := l.length + 4) (by simp [hcl]) (by omega) (by omega) xh.size) ?_
    rintro v2 HG ⟨o2, gr, _⟩
    have tg : ∀ g (c : Array Value) (e : TypeId), Hh[g]? = some (Obj.cells c e) → e ≠ 134 → HG[g]? = some (Obj.cells c e) := fun g c e hg hne => by
      rw [gr.but.get g (Array.getElem?_eq_some_iff.1 hg).1 fun e9 => ?_]
      · exact hg
      · obtain ⟨_, _, c', hc'⟩ := ov.blk e9.symm
        rw [hg] at hc'
        simp only [Option.some.injEq, Obj.cells.injEq] at hc'
        exact hne hc'.2.1
    have xCG : Ext HC HG := Upto.trans xh (gr.upto ov xh.size)
    have x0G : Ext H HG := Upto.ext x0C x0C.size xCG
    have hcaG : All2 (fun c u => HG[c]? = some (.cells #[u] 53)) cs vs := hca.mono fun c u hc => tg c #[u] 53 hc (by decide)
    have o3 : V.Own HG HC.size 134 1 v2 (stepsV b H.size (H.size + 1) (H.size + 1 + 1) HA.size H2.size cs) := by
      unfold stepsV
      exact o2
    have hfl : (stepsV b H.size (H.size + 1) (H.size + 1 + 1) HA.size H2.size cs).length = l.length + 4 := by unfold stepsV; simp [hcl]
    obtain ⟨ga, gl, gc, rfl⟩ := o3.sl.form
    have hgl : gl = l.length + 4 := by have := Sl.length o3.sl; rw [hfl] at this; omega
    subst hgl
    obtain ⟨gb, go, rfl⟩ := Sl.at o3.sl (by omega)
    have hgbB := (o3.blk (g := gb) rfl).1
    have hgbl := (o3.blk (g := gb) rfl).2.1
    clear o2 gr tg
    simp only [go_sem, ↓reduceIte, Nat.reduceEqDiff, Nat.reduceLeDiff, Nat.reduceAdd, Nat.reduceMul, Nat.reduceSub, Nat.reduceBEq, Nat.reduceGT, Nat.reduceLT, Int.reduceLE, Int.reduceLT, Int.reduceNeg, reduceCtorEq, e4, e5, e9, e10, e11]
    have hsG := xCG.size
    -- what there is when the steps begin
    refine LoopI.by mixed (fun ρ H' => ∃ (j : Nat) (F' : Nat → Prop) (p : Pb), ρ 4 = ptrOf H.size ∧ ρ 5 = ptrOf (H.size + 1) ∧ ρ 9 = ptrOf HA.size ∧ ρ 10 = .bool (thereS s (tn n)) ∧ ρ 11 = ptrOf H2.size ∧ ρ 43 = .slice (some ⟨gb, go, none⟩) (l.length + 4) gc ∧ ρ 44 = .int .i64 ((l.length + 4 : Nat) : Int) ∧ ρ 45 = .int .i64 j ∧ j ≤ l.length + 4 ∧
      FsH H' F' b p.s ∧ Ok p.s ∧ p.s.ops ≤ s.ops + 2 * j ∧ 0 ≤ p.w.size ∧ p.w.size ≤ 1036 * j ∧ 0 ≤ p.w.data ∧ p.w.data ≤ j ∧ ChX (· = H2.size) F F' HG H' ∧
      (if j = 0 then p = ⟨s, newW (tn n)⟩ ∧ H'[H2.size]? = some (.cells #[.pointer none] 141) else ∃ w, H'[H2.size]? = some (.cells #[ptrOf w] 141) ∧ HG.size ≤ w ∧ ¬ F' w ∧ WrH H' w b p.w) ∧
      ∃ f, f ∉ s.held ∧ (0 < j → goP n hd l f (thereS s (tn n)) (l.length + 4) 0 ⟨s, newW (tn n)⟩ = goP n hd l f (thereS s (tn n)) (l.length + 4 - j) j p)) (fun ρ _ => l.length + 4 - (iof (ρ 45)).toNat) ?_ ?_
    · refine ⟨0, F, ⟨s, newW (tn n)⟩, by simp only [go_sem, ↓reduceIte, Nat.reduceEqDiff, Nat.reduceLeDiff, Nat.reduceAdd, Nat.reduceMul, Nat.reduceSub, Nat.reduceBEq, Nat.reduceGT, Nat.reduceLT, Int.reduceLE, Int.reduceLT, Int.reduceNeg, reduceCtorEq, e4, ptrOf], by simp only [go_sem, ↓reduceIte, Nat.reduceEqDiff, Nat.reduceLeDiff, Nat.reduceAdd, Nat.reduceMul, Nat.reduceSub, Nat.reduceBEq, Nat.reduceGT, Nat.reduceLT, Int.reduceLE, Int.reduceLT, Int.reduceNeg, reduceCtorEq, e5, ptrOf], by simp only [go_sem, ↓reduceIte, Nat.reduceEqDiff, Nat.reduceLeDiff, Nat.reduceAdd, Nat.reduceMul, Nat.reduceSub, Nat.reduceBEq, Nat.reduceGT, Nat.reduceLT, Int.reduceLE, Int.reduceLT, Int.reduceNeg, reduceCtorEq, e9, ptrOf], by simp only [go_sem, ↓reduceIte, Nat.reduceEqDiff, Nat.reduceLeDiff, Nat.reduceAdd, Nat.reduceMul, Nat.reduceSub, Nat.reduceBEq, Nat.reduceGT, Nat.reduceLT, Int.reduceLE, Int.reduceLT, Int.reduceNeg, reduceCtorEq, e10], by simp only [go_sem, ↓reduceIte, Nat.reduceEqDiff, Nat.reduceLeDiff, Nat.reduceAdd, Nat.reduceMul, Nat.reduceSub, Nat.reduceBEq, Nat.reduceGT, Nat.reduceLT, Int.reduceLE, Int.reduceLT, Int.reduceNeg, reduceCtorEq, e11, ptrOf], by simp only [go_sem, ↓reduceIte, Nat.reduceEqDiff, Nat.reduceLeDiff, Nat.reduceAdd, Nat.reduceMul, Nat.reduceSub, Nat.reduceBEq, Nat.reduceGT, Nat.reduceLT, Int.reduceLE, Int.reduceLT, Int.reduceNeg, reduceCtorEq], by simp only [go_sem, ↓reduceIte, Nat.reduceEqDiff, Nat.reduceLeDiff, Nat.reduceAdd, Nat.reduceMul, Nat.reduceSub, Nat.reduceBEq, Nat.reduceGT, Nat.reduceLT, Int.reduceLE, Int.reduceLT, Int.reduceNeg, reduceCtorEq], by simp only [go_sem, ↓reduceIte, Nat.reduceEqDiff, Nat.reduceLeDiff, Nat.reduceAdd, Nat.reduceMul, Nat.reduceSub, Nat.reduceBEq, Nat.reduceGT, Nat.reduceLT, Int.reduceLE, Int.reduceLT, Int.reduceNeg, reduceCtorEq] <;> rfl, by omega, h.ext x0G, ok, by simp, by simp [newW], by simp [newW], by simp [newW], by simp [newW], ChX.refl _ _ _, ?_, ?_⟩
      · rw [if_pos rfl]; exact ⟨rfl, xCG.old k11⟩
      · exact ⟨H.size, fun e => by
          obtain ⟨_, _, _, _, _, hP⟩ := h
          have := hP.lt _ (hP.hf _ e).1
          omega, fun e => absurd e (by omega)⟩
    rintro ρ HH ⟨j, F', p, r4, r5, r9, r10, r11, r43, r44, r45, hj, hfs, okp, hop, hz1, hz2, hd1, hd2, cx, hw, f, hf, hgo⟩
    simp only [ptrOf] at r4 r5 r9 r11
    have hwlt : ∀ w, HG.size ≤ w → w ≠ H2.size := fun w hw => by omega
    have nF0 : ∀ g, H.size ≤ g → g < HG.size → ¬ F' g := fun g g1 g2 => cx.not g2 fun e => by have := lFH g e; omega
    have kp : ∀ g (c : Array Value) (e : TypeId), HG[g]? = some (Obj.cells c e) → H.size ≤ g → g ≠ H2.size → HH[g]? = some (Obj.cells c e) := fun g c e hg g1 g2 => cx.keep hg (fun e => by have := lFH g e; omega) g2
    have k4' := kp _ _ _ (xCG.old k4C) (by omega) (by omega)
    have k5' := kp _ _ _ (xCG.old k5C) (by omega) (by omega)
    have k6' := kp _ _ _ (xCG.old k6C) (by omega) (by omega)
    have k9' := kp _ _ _ (xCG.old k9C) (by omega) (by omega)
    have h0lt : 0 < H.size := by obtain ⟨t, fr, ht⟩ := ht; exact (Array.getElem?_eq_some_iff.1 ht).1
    have cxH : ChX (· = H2.size) F F' H HH := x0G.chx.trans cx
    have n0 : ¬ F' 0 := cxH.not h0lt h0
    have t0 : CrcTab HH := cxH.crc ht h0 (by omega)
    have huH := hu.keep cxH (fun g e => by have : g = H2.size := e; omega) (Nat.le_refl _)
    have hvH := hv.keep cxH (fun g e => by have : g = H2.size := e; omega) (Nat.le_refl _)
    have hszH := cxH.size
    by_cases hlj : j < l.length + 4
    · have c0 : (0 : Int) ≤ (j : Int) := by omega
      have c1 : (j : Int) < ((l.length + 4 : Nat) : Int) := by omega
      have w1 : IntKind.i64.wrap ((j : Int) + 1) = ((j + 1 : Nat) : Int) := by rw [w64_id (by omega) (by omega)]; omega
      have g0 := Sl.get o3.sl (i := j) (by omega)
      have g1 : hget HH gb (go + j) = (stepsV b H.size (H.size + 1) (H.size + 1 + 1) HA.size H2.size cs)[j]? := by
        rw [← g0]
        unfold hget
        rw [cx.get gb hgbl (fun e => by have := lFH gb e; omega) (by show gb ≠ H2.size; omega)]
      have goS : ∀ f, goP n hd l f (thereS s (tn n)) (l.length + 4 - j) j p = if (stepP n hd l f j p).2 = 0 then goP n hd l f (thereS s (tn n)) (l.length + 4 - (j + 1)) (j + 1) (stepP n hd l f j p).1 else failS (stepP n hd l f j p).1.s (tn n) (thereS s (tn n)) (stepP n hd l f j p).2 := fun f => by
        rw [show l.length + 4 - j = (l.length + 4 - (j + 1)) + 1 by omega]
        rfl
      obtain ⟨sg0, sg1, sg2, sg3, sg4⟩ := steps_get b H.size (H.size + 1) (H.size + 1 + 1) HA.size H2.size cs
      rw [hcl] at sg2 sg3 sg4
      rcases (by omega : j = 0 ∨ (0 < j ∧ j ≤ l.length) ∨ j = l.length + 1 ∨ j = l.length + 2 ∨ j = l.length + 3) with j0 | ⟨j1, j2⟩ | j3 | j4 | j5
      case' inl =>
        rw [if_pos j0] at hw
        obtain ⟨hp0, k11'⟩ := hw
        subst hp0
        rw [show (stepsV b H.size (H.size + 1) (H.size + 1 + 1) HA.size H2.size cs)[j]? = some (.func (.func 88) #[] #[ptrOf H.size, ptrOf HA.size, ptrOf (H.size + 1 + 1), ptrOf H2.size]) by rw [j0]; exact sg0] at g1
        simp only [ptrOf] at g1
        clear hgo hf f
        simp only [c34_L0, c34_L1, go_sem, ↓reduceIte, Nat.reduceEqDiff, Nat.reduceLeDiff, Nat.reduceAdd, Nat.reduceMul, Nat.reduceSub, Nat.reduceBEq, Nat.reduceGT, Nat.reduceLT, Int.reduceLE, Int.reduceLT, Int.reduceNeg, reduceCtorEq, r4, r5, r9, r10, r11, r43, r44, r45, c0, c1, Int.toNat_natCast, g1]
        refine FunI.by (F88 hfs okp (by simp only at hop ⊢; omega) n0 t0 huH.1 hb (by omega) (huH.2.imp id fun q g hg => ⟨(q g hg).1, by have := (q g hg).2; omega⟩) k4' k9' k6' k11' (nF0 _ (by omega) (by omega))) ?_
        rintro _ HI ⟨f, hf, rfl, FI, hI, cxI, hwI⟩
        have eS : stepP n hd l f j ⟨s, newW (tn n)⟩ = (⟨(beginW s (tn n) f hd).1, (beginW s (tn n) f hd).2.1⟩, (beginW s (tn n) f hd).2.2) := by unfold stepP; rw [if_pos j0]
        have hg := goS f
        have hg0 : goP n hd l f (thereS s (tn n)) (l.length + 4) 0 ⟨s, newW (tn n)⟩ = goP n hd l f (thereS s (tn n)) (l.length + 4 - j) j ⟨s, newW (tn n)⟩ := by rw [j0]; rfl
        rw [hg] at hg0
        have okS := stepP_ok (n := n) (l := l) (j := j) (p := ⟨s, newW (tn n)⟩) okp (fun _ => hf) hb hbl
        have opS := stepP_ops n hd l f j ⟨s, newW (tn n)⟩
        have bz := begin_size s (tn n) f hd
        have szS : 0 ≤ (stepP n hd l f j ⟨s, newW (tn n)⟩).1.w.size ∧ (stepP n hd l f j ⟨s, newW (tn n)⟩).1.w.size ≤ 1036 * ((j : Nat) : Int) + 1036 ∧ 0 ≤ (stepP n hd l f j ⟨s, newW (tn n)⟩).1.w.data ∧ (stepP n hd l f j ⟨s, newW (tn n)⟩).1.w.data ≤ ((j : Nat) : Int) + 1 := by rw [eS]; simp only; omega
        have hwS : (stepP n hd l f j ⟨s, newW (tn n)⟩).2 = 0 → ∃ w, HI[H2.size]? = some (.cells #[ptrOf w] 141) ∧ HG.size ≤ w ∧ ¬ FI w ∧ WrH HI w b (stepP n hd l f j ⟨s, newW (tn n)⟩).1.w := fun e => by
          rw [eS] at e ⊢
          obtain ⟨w, w1, w2, w3, w4⟩ := hwI e
          exact ⟨w, w1, Nat.le_trans cx.size w2, w3, w4⟩
        have hI' : FsH HI FI b (stepP n hd l f j ⟨s, newW (tn n)⟩).1.s := by rw [eS]; exact hI
        have eE : (beginW s (tn n) f hd).2.2 = (stepP n hd l f j ⟨s, newW (tn n)⟩).2 := by rw [eS]
        rw [eE]
        have cxS : ChX (· = H2.size) F FI HG HI := cx.trans cxI
        generalize stepP n hd l f j ⟨s, newW (tn n)⟩ = q at *
      case' inr.inl =>
        have hg := goS f
        rw [← hgo j1] at hg
        have hg0 := hg
        rw [if_neg (by omega)] at hw
        obtain ⟨w, k11', hwG, hwF, hwr⟩ := hw
        obtain ⟨cc, hcc⟩ : ∃ cc, cs[j - 1]? = some cc := ⟨_, List.getElem?_eq_getElem (by omega)⟩
        obtain ⟨uu, huu, kcc⟩ := All2.getL' hcaG hcc
        obtain ⟨pp, hpp, haw⟩ := All2.getL' hvH.all huu
        have hpl : pp = l.getD (j - 1) [] := by rw [List.getD_eq_getElem?_getD, hpp]; rfl
        have hpm : pp ∈ l := List.mem_of_getElem? hpp
        have hccB := hcb cc (List.mem_of_getElem? hcc)
        rw [show (stepsV b H.size (H.size + 1) (H.size + 1 + 1) HA.size H2.size cs)[j]? = some (.func (.func 90) #[] #[ptrOf H2.size, ptrOf cc]) from sg1 j cc j1 hcc] at g1
        simp only [ptrOf] at g1
        simp only [c34_L0, c34_L1, go_sem, ↓reduceIte, Nat.reduceEqDiff, Nat.reduceLeDiff, Nat.reduceAdd, Nat.reduceMul, Nat.reduceSub, Nat.reduceBEq, Nat.reduceGT, Nat.reduceLT, Int.reduceLE, Int.reduceLT, Int.reduceNeg, reduceCtorEq, r4, r5, r9, r10, r11, r43, r44, r45, c0, c1, Int.toNat_natCast, g1]
        have hpl2 := h2 pp hpm
        refine FunI.by (F90 hfs okp (by omega) hwr hwF n0 t0 haw.1 (hbl pp hpm) (by omega) (haw.2.imp id fun q g hg => ⟨(q g hg).1, by have := (q g hg).2; omega⟩) (by omega) (by omega) k11' (kp _ _ _ kcc (by omega) (by omega))) ?_
        rintro _ HI ⟨rfl, FI, hI, hwI, cxI⟩
        have eS : stepP n hd l f j p = (⟨(putW p.s p.w pp).1, (putW p.s p.w pp).2.1⟩, (putW p.s p.w pp).2.2) := by unfold stepP; rw [if_neg (by omega), if_pos j2, ← hpl]
        have okS := stepP_ok (n := n) (l := l) (f := f) (j := j) okp (fun e => by omega) hb hbl
        have opS := stepP_ops n hd l f j p
        have bz := putW_size p.s p.w pp
        have szS : 0 ≤ (stepP n hd l f j p).1.w.size ∧ (stepP n hd l f j p).1.w.size ≤ 1036 * ((j : Nat) : Int) + 1036 ∧ 0 ≤ (stepP n hd l f j p).1.w.data ∧ (stepP n hd l f j p).1.w.data ≤ ((j : Nat) : Int) + 1 := by rw [eS]; simp only; omega
        have hwlt2 := (Array.getElem?_eq_some_iff.1 hwr).1
        have hwS : (stepP n hd l f j p).2 = 0 → ∃ w, HI[H2.size]? = some (.cells #[ptrOf w] 141) ∧ HG.size ≤ w ∧ ¬ FI w ∧ WrH HI w b (stepP n hd l f j p).1.w := fun e => by
          rw [eS]
          exact ⟨w, cxI.keep k11' (nF0 _ (by omega) (by omega)) (by show H2.size ≠ w; omega), hwG, cxI.not hwlt2 hwF, hwI⟩
        have hI' : FsH HI FI b (stepP n hd l f j p).1.s := by rw [eS]; exact hI
        have eE : (putW p.s p.w pp).2.2 = (stepP n hd l f j p).2 := by rw [eS]
        rw [eE]
        have cxS : ChX (· = H2.size) F FI HG HI := by
          have := (cx.mono (Y := fun g => g = H2.size ∨ g = w) (fun g e => .inl e)).trans (cxI.mono (Y := fun g => g = H2.size ∨ g = w) (fun g e => .inr e))
          exact ⟨this.size, this.old, fun g g1 g2 g3 => this.get g g1 g2 (by rintro (e | e); exact g3 e; omega)⟩
        generalize stepP n hd l f j p = q at *
      case' inr.inr.inl =>
        have hg := goS f
        rw [← hgo (by omega)] at hg
        have hg0 := hg
        rw [if_neg (by omega)] at hw
        obtain ⟨w, k11', hwG, hwF, hwr⟩ := hw
        rw [show (stepsV b H.size (H.size + 1) (H.size + 1 + 1) HA.size H2.size cs)[j]? = some (.func (.func 92) #[] #[ptrOf H2.size]) by rw [j3]; exact sg2] at g1
        simp only [ptrOf] at g1
        simp only [c34_L0, c34_L1, go_sem, ↓reduceIte, Nat.reduceEqDiff, Nat.reduceLeDiff, Nat.reduceAdd, Nat.reduceMul, Nat.reduceSub, Nat.reduceBEq, Nat.reduceGT, Nat.reduceLT, Int.reduceLE, Int.reduceLT, Int.reduceNeg, reduceCtorEq, r4, r5, r9, r10, r11, r43, r44, r45, c0, c1, Int.toNat_natCast, g1]
        refine FunI.by (F92 hfs okp (by omega) hwr hwF n0 t0 (by omega) (by omega) k11') ?_
        rintro _ HI ⟨rfl, FI, hI, hwI, cxI⟩
        have eS : stepP n hd l f j p = (⟨(endW p.s p.w true).1, (endW p.s p.w true).2.1⟩, (endW p.s p.w true).2.2.2.2) := by unfold stepP; rw [if_neg (by omega), if_neg (by omega), if_pos j3]
        have okS := stepP_ok (n := n) (l := l) (f := f) (j := j) okp (fun e => by omega) hb hbl
        have opS := stepP_ops n hd l f j p
        have bz : p.w.size ≤ (endW p.s p.w true).2.1.size ∧ (endW p.s p.w true).2.1.size ≤ p.w.size + 1036 ∧ (endW p.s p.w true).2.1.data = p.w.data := by
          have b1 := putS_size p.s p.w 3 (be4 p.w.data)
          have b2 := (putS_data p.s p.w 3 (be4 p.w.data)).1
          unfold endW
          split
          · exact ⟨Int.le_refl _, by simp only; omega, rfl⟩
          · exact ⟨b1.1, b1.2, b2⟩
        have szS : 0 ≤ (stepP n hd l f j p).1.w.size ∧ (stepP n hd l f j p).1.w.size ≤ 1036 * ((j : Nat) : Int) + 1036 ∧ 0 ≤ (stepP n hd l f j p).1.w.data ∧ (stepP n hd l f j p).1.w.data ≤ ((j : Nat) : Int) + 1 := by rw [eS]; simp only; omega
        have hwlt2 := (Array.getElem?_eq_some_iff.1 hwr).1
        have hwS : (stepP n hd l f j p).2 = 0 → ∃ w, HI[H2.size]? = some (.cells #[ptrOf w] 141) ∧ HG.size ≤ w ∧ ¬ FI w ∧ WrH HI w b (stepP n hd l f j p).1.w := fun e => by
          rw [eS]
          exact ⟨w, cxI.keep k11' (nF0 _ (by omega) (by omega)) (by show H2.size ≠ w; omega), hwG, cxI.not hwlt2 hwF, hwI⟩
        have hI' : FsH HI FI b (stepP n hd l f j p).1.s := by rw [eS]; exact hI
        have eE : (endW p.s p.w true).2.2.2.2 = (stepP n hd l f j p).2 := by rw [eS]
        rw [eE]
        have cxS : ChX (· = H2.size) F FI HG HI := by
          have := (cx.mono (Y := fun g => g = H2.size ∨ g = w) (fun g e => .inl e)).trans (cxI.mono (Y := fun g => g = H2.size ∨ g = w) (fun g e => .inr e))
          exact ⟨this.size, this.old, fun g g1 g2 g3 => this.get g g1 g2 (by rintro (e | e); exact g3 e; omega)⟩
        generalize stepP n hd l f j p = q at *
      case' inr.inr.inr.inl =>
        have hg := goS f
        rw [← hgo (by omega)] at hg
        have hg0 := hg
        rw [if_neg (by omega)] at hw
        obtain ⟨w, k11', hwG, hwF, hwr⟩ := hw
        rw [show (stepsV b H.size (H.size + 1) (H.size + 1 + 1) HA.size H2.size cs)[j]? = some (.func (.func 94) #[] #[ptrOf H.size, ptrOf HA.size, ptrOf (H.size + 1)]) by rw [j4]; exact sg3] at g1
        simp only [ptrOf] at g1
        simp only [c34_L0, c34_L1, go_sem, ↓reduceIte, Nat.reduceEqDiff, Nat.reduceLeDiff, Nat.reduceAdd, Nat.reduceMul, Nat.reduceSub, Nat.reduceBEq, Nat.reduceGT, Nat.reduceLT, Int.reduceLE, Int.reduceLT, Int.reduceNeg, reduceCtorEq, r4, r5, r9, r10, r11, r43, r44, r45, c0, c1, Int.toNat_natCast, g1]
        refine FunI.by (F94 hfs okp (by omega) k4' k9' k5') ?_
        rintro _ HI ⟨rfl, FI, hI, cxI⟩
        have eS : stepP n hd l f j p = (⟨(renameS p.s (tn n) n).1, p.w⟩, (renameS p.s (tn n) n).2) := by unfold stepP; rw [if_neg (by omega), if_neg (by omega), if_neg (by omega), if_pos j4]
        have okS := stepP_ok (n := n) (l := l) (f := f) (j := j) okp (fun e => by omega) hb hbl
        have opS := stepP_ops n hd l f j p
        have szS : 0 ≤ (stepP n hd l f j p).1.w.size ∧ (stepP n hd l f j p).1.w.size ≤ 1036 * ((j : Nat) : Int) + 1036 ∧ 0 ≤ (stepP n hd l f j p).1.w.data ∧ (stepP n hd l f j p).1.w.data ≤ ((j : Nat) : Int) + 1 := by rw [eS]; simp only; omega
        have hwlt2 := (Array.getElem?_eq_some_iff.1 hwr).1
        have cxI' : ChX (fun _ => False) F' FI HH HI := cxI.chx
        have hwS : (stepP n hd l f j p).2 = 0 → ∃ w, HI[H2.size]? = some (.cells #[ptrOf w] 141) ∧ HG.size ≤ w ∧ ¬ FI w ∧ WrH HI w b (stepP n hd l f j p).1.w := fun e => by
          rw [eS]
          exact ⟨w, cxI'.keep k11' (nF0 _ (by omega) (by omega)) (fun e => e), hwG, cxI'.not hwlt2 hwF, cxI'.keep hwr hwF (fun e => e)⟩
        have hI' : FsH HI FI b (stepP n hd l f j p).1.s := by rw [eS]; exact hI
        have eE : (renameS p.s (tn n) n).2 = (stepP n hd l f j p).2 := by rw [eS]
        rw [eE]
        have cxS : ChX (· = H2.size) F FI HG HI := cx.trans cxI.chx
        generalize stepP n hd l f j p = q at *
      case' inr.inr.inr.inr =>
        have hg := goS f
        rw [← hgo (by omega)] at hg
        have hg0 := hg
        rw [if_neg (by omega)] at hw
        obtain ⟨w, k11', hwG, hwF, hwr⟩ := hw
        rw [show (stepsV b H.size (H.size + 1) (H.size + 1 + 1) HA.size H2.size cs)[j]? = some (.func (.func 70) #[ptrOf b] #[]) by rw [j5]; exact sg4] at g1
        simp only [ptrOf] at g1
        simp only [c34_L0, c34_L1, go_sem, ↓reduceIte, Nat.reduceEqDiff, Nat.reduceLeDiff, Nat.reduceAdd, Nat.reduceMul, Nat.reduceSub, Nat.reduceBEq, Nat.reduceGT, Nat.reduceLT, Int.reduceLE, Int.reduceLT, Int.reduceNeg, reduceCtorEq, r4, r5, r9, r10, r11, r43, r44, r45, c0, c1, Int.toNat_natCast, g1]
        obtain ⟨_, _, _, _, _, hPp⟩ := hfs
        refine FunI.by (F70 hPp okp (by omega)) ?_
        rintro _ HI ⟨rfl, FI, hI, cxI⟩
        have eS : stepP n hd l f j p = (⟨(syncDirS p.s).1, p.w⟩, (syncDirS p.s).2) := by unfold stepP; rw [if_neg (by omega), if_neg (by omega), if_neg (by omega), if_neg (by omega)]
        have okS := stepP_ok (n := n) (l := l) (f := f) (j := j) okp (fun e => by omega) hb hbl
        have opS := stepP_ops n hd l f j p
        have szS : 0 ≤ (stepP n hd l f j p).1.w.size ∧ (stepP n hd l f j p).1.w.size ≤ 1036 * ((j : Nat) : Int) + 1036 ∧ 0 ≤ (stepP n hd l f j p).1.w.data ∧ (stepP n hd l f j p).1.w.data ≤ ((j : Nat) : Int) + 1 := by rw [eS]; simp only; omega
        have hwlt2 := (Array.getElem?_eq_some_iff.1 hwr).1
        have cxI' : ChX (fun _ => False) F' FI HH HI := cxI.chx
        have hwS : (stepP n hd l f j p).2 = 0 → ∃ w, HI[H2.size]? = some (.cells #[ptrOf w] 141) ∧ HG.size ≤ w ∧ ¬ FI w ∧ WrH HI w b (stepP n hd l f j p).1.w := fun e => by
          rw [eS]
          exact ⟨w, cxI'.keep k11' (nF0 _ (by omega) (by omega)) (fun e => e), hwG, cxI'.not hwlt2 hwF, cxI'.keep hwr hwF (fun e => e)⟩
        have hI' : FsH HI FI b (stepP n hd l f j p).1.s := by rw [eS]; exact hI
        have eE : (syncDirS p.s).2 = (stepP n hd l f j p).2 := by rw [eS]
        rw [eE]
        have cxS : ChX (· = H2.size) F FI HG HI := cx.trans cxI.chx
        generalize stepP n hd l f j p = q at *
      all_goals
        obtain ⟨_, _, _, _, _, hPI⟩ := hI'
        have hI9 : FsH HI FI b q.1.s := ⟨_, _, _, _, _, hPI⟩
        have kpI : ∀ g (c : Array Value) (e : TypeId), HG[g]? = some (Obj.cells c e) → H.size ≤ g → g ≠ H2.size → HI[g]? = some (Obj.cells c e) := fun g c e hg g1 g2 => cxS.keep hg (fun e => by have := lFH g e; omega) g2
        have cxF : ChX (fun _ => False) F FI H HI := by
          have := (x0G.chx (X := (· = H2.size)) (F := F)).trans cxS
          exact ⟨this.size, this.old, fun g g1 g2 _ => this.get g g1 g2 (by show g ≠ H2.size; omega)⟩
        have q4' : hget HI H.size 0 = some (ptrOf b) := hget_cells (kpI _ _ _ (xCG.old k4C) (by omega) (by omega))
        have q9' : hget HI HA.size 0 = some (.string (tn n)) := hget_cells (kpI _ _ _ (xCG.old k9C) (by omega) (by omega))
        simp only [ptrOf] at q4'
        by_cases c : q.2 = 0
        · rw [if_pos c] at hg0
          simp only [go_sem, ↓reduceIte, Nat.reduceEqDiff, Nat.reduceLeDiff, Nat.reduceAdd, Nat.reduceMul, Nat.reduceSub, Nat.reduceBEq, Nat.reduceGT, Nat.reduceLT, Int.reduceLE, Int.reduceLT, Int.reduceNeg, reduceCtorEq, c, r4, r5, r9, r10, r11, r43, r44, r45, w1]
          refine ⟨Hold.mk ⟨j + 1, FI, q.1, by simp only [go_sem, ↓reduceIte, Nat.reduceEqDiff, Nat.reduceLeDiff, Nat.reduceAdd, Nat.reduceMul, Nat.reduceSub, Nat.reduceBEq, Nat.reduceGT, Nat.reduceLT, Int.reduceLE, Int.reduceLT, Int.reduceNeg, reduceCtorEq, r4, ptrOf], by simp only [go_sem, ↓reduceIte, Nat.reduceEqDiff, Nat.reduceLeDiff, Nat.reduceAdd, Nat.reduceMul, Nat.reduceSub, Nat.reduceBEq, Nat.reduceGT, Nat.reduceLT, Int.reduceLE, Int.reduceLT, Int.reduceNeg, reduceCtorEq, r5, ptrOf], by simp only [go_sem, ↓reduceIte, Nat.reduceEqDiff, Nat.reduceLeDiff, Nat.reduceAdd, Nat.reduceMul, Nat.reduceSub, Nat.reduceBEq, Nat.reduceGT, Nat.reduceLT, Int.reduceLE, Int.reduceLT, Int.reduceNeg, reduceCtorEq, r9, ptrOf], by simp only [go_sem, ↓reduceIte, Nat.reduceEqDiff, Nat.reduceLeDiff, Nat.reduceAdd, Nat.reduceMul, Nat.reduceSub, Nat.reduceBEq, Nat.reduceGT, Nat.reduceLT, Int.reduceLE, Int.reduceLT, Int.reduceNeg, reduceCtorEq, r10], by simp only [go_sem, ↓reduceIte, Nat.reduceEqDiff, Nat.reduceLeDiff, Nat.reduceAdd, Nat.reduceMul, Nat.reduceSub, Nat.reduceBEq, Nat.reduceGT, Nat.reduceLT, Int.reduceLE, Int.reduceLT, Int.reduceNeg, reduceCtorEq, r11, ptrOf], by simp only [go_sem, ↓reduceIte, Nat.reduceEqDiff, Nat.reduceLeDiff, Nat.reduceAdd, Nat.reduceMul, Nat.reduceSub, Nat.reduceBEq, Nat.reduceGT, Nat.reduceLT, Int.reduceLE, Int.reduceLT, Int.reduceNeg, reduceCtorEq, r43], by simp only [go_sem, ↓reduceIte, Nat.reduceEqDiff, Nat.reduceLeDiff, Nat.reduceAdd, Nat.reduceMul, Nat.reduceSub, Nat.reduceBEq, Nat.reduceGT, Nat.reduceLT, Int.reduceLE, Int.reduceLT, Int.reduceNeg, reduceCtorEq, r44], by simp only [go_sem, ↓reduceIte, Nat.reduceEqDiff, Nat.reduceLeDiff, Nat.reduceAdd, Nat.reduceMul, Nat.reduceSub, Nat.reduceBEq, Nat.reduceGT, Nat.reduceLT, Int.reduceLE, Int.reduceLT, Int.reduceNeg, reduceCtorEq], by omega, hI9, okS, by first | omega | (simp only at opS hop ⊢; omega), by omega, by omega, by omega, by omega, cxS, ?_, f, hf, fun _ => hg0⟩, by omega⟩
          rw [if_neg (by omega)]
          exact hwS c
        rw [if_neg c] at hg0
        have hpub : pubS s n hd l f = failS q.1.s (tn n) (thereS s (tn n)) q.2 := hg0
        by_cases c81 : q.2 = 81
        · have hF : pubS s n hd l f = (q.1.s, q.2) := by rw [hpub]; unfold failS; rw [if_neg (fun e => e.1 c81)]
          simp only [go_sem, ↓reduceIte, Nat.reduceEqDiff, Nat.reduceLeDiff, Nat.reduceAdd, Nat.reduceMul, Nat.reduceSub, Nat.reduceBEq, Nat.reduceGT, Nat.reduceLT, Int.reduceLE, Int.reduceLT, Int.reduceNeg, reduceCtorEq, c81, Int.reduceEq, r4, r5, r9, r10, r11, r43, r44, r45]
          exact ⟨f, FI, hf, by rw [hF, c81], by rw [hF]; exact hI9, cxF⟩
        cases hwas : thereS s (tn n) with
        | true =>
          have hF : pubS s n hd l f = (q.1.s, q.2) := by rw [hpub]; unfold failS; rw [if_neg (fun e => by rw [hwas] at e; exact absurd e.2.1 (by decide))]
          rw [hwas] at r10
          simp only [go_sem, ↓reduceIte, Nat.reduceEqDiff, Nat.reduceLeDiff, Nat.reduceAdd, Nat.reduceMul, Nat.reduceSub, Nat.reduceBEq, Nat.reduceGT, Nat.reduceLT, Int.reduceLE, Int.reduceLT, Int.reduceNeg, reduceCtorEq, c, c81, r4, r5, r9, r10, r11, r43, r44, r45]
          exact ⟨f, FI, hf, by rw [hF], by rw [hF]; exact hI9, cxF⟩
        | false =>
          rw [hwas] at r10 hpub
          simp only [go_sem, ↓reduceIte, Nat.reduceEqDiff, Nat.reduceLeDiff, Nat.reduceAdd, Nat.reduceMul, Nat.reduceSub, Nat.reduceBEq, Nat.reduceGT, Nat.reduceLT, Int.reduceLE, Int.reduceLT, Int.reduceNeg, reduceCtorEq, c, c81, r4, r5, r9, r10, r11, r43, r44, r45, q4', q9']
          refine FunI.by (F87 hI9 okS (tn n)) ?_
          rintro _ HJ ⟨rfl, xJ⟩
          have q4J : hget HJ H.size 0 = some (.pointer (some ⟨b, 0, none⟩)) := (xJ.hget (hget_lt q4')).trans q4'
          have q9J : hget HJ HA.size 0 = some (.string (tn n)) := (xJ.hget (hget_lt q9')).trans q9'
          cases hth : thereS q.1.s (tn n) with
          | false =>
            have hF : pubS s n hd l f = (q.1.s, q.2) := by rw [hpub]; unfold failS; rw [if_neg (fun e => by rw [hth] at e; exact absurd e.2.2 (by decide))]
            simp only [go_sem, ↓reduceIte, Nat.reduceEqDiff, Nat.reduceLeDiff, Nat.reduceAdd, Nat.reduceMul, Nat.reduceSub, Nat.reduceBEq, Nat.reduceGT, Nat.reduceLT, Int.reduceLE, Int.reduceLT, Int.reduceNeg, reduceCtorEq, r4, r9]
            exact ⟨f, FI, hf, by rw [hF], by rw [hF]; exact hI9.ext xJ, cxF.trans xJ.chx⟩
          | true =>
            have hF : pubS s n hd l f = ((removeS q.1.s (tn n)).1, if (removeS q.1.s (tn n)).2 = 81 then 81 else q.2) := by rw [hpub]; unfold failS; rw [if_pos ⟨c81, rfl, hth⟩]
            simp only [go_sem, ↓reduceIte, Nat.reduceEqDiff, Nat.reduceLeDiff, Nat.reduceAdd, Nat.reduceMul, Nat.reduceSub, Nat.reduceBEq, Nat.reduceGT, Nat.reduceLT, Int.reduceLE, Int.reduceLT, Int.reduceNeg, reduceCtorEq, r4, r9, q4J, q9J]
            refine FunI.by (F68 (hPI.ext xJ) okS (by first | omega | (simp only at opS hop ⊢; omega)) (tn n)) ?_
            rintro _ HK ⟨rfl, FK, hK, chK⟩
            have cxK : ChX (fun _ => False) F FK H HK := (cxF.trans xJ.chx).trans chK.chx
            by_cases cr : (removeS q.1.s (tn n)).2 = 81
            · rw [if_pos cr] at hF
              simp only [go_sem, ↓reduceIte, Nat.reduceEqDiff, Nat.reduceLeDiff, Nat.reduceAdd, Nat.reduceMul, Nat.reduceSub, Nat.reduceBEq, Nat.reduceGT, Nat.reduceLT, Int.reduceLE, Int.reduceLT, Int.reduceNeg, reduceCtorEq, cr]
              exact ⟨f, FK, hf, by rw [hF], by rw [hF]; exact hK, cxK⟩
            · rw [if_neg cr] at hF
              simp only [go_sem, ↓reduceIte, Nat.reduceEqDiff, Nat.reduceLeDiff, Nat.reduceAdd, Nat.reduceMul, Nat.reduceSub, Nat.reduceBEq, Nat.reduceGT, Nat.reduceLT, Int.reduceLE, Int.reduceLT, Int.reduceNeg, reduceCtorEq, cr]
              exact ⟨f, FK, hf, by rw [hF], by rw [hF]; exact hK, cxK⟩
    · have c1 : ¬ (j : Int) < ((l.length + 4 : Nat) : Int) := by omega
      have ej : j = l.length + 4 := by omega
      subst ej
      simp only [c34_L0, c34_L1, go_sem, ↓reduceIte, Nat.reduceEqDiff, Nat.reduceLeDiff, Nat.reduceAdd, Nat.reduceMul, Nat.reduceSub, Nat.reduceBEq, Nat.reduceGT, Nat.reduceLT, Int.reduceLE, Int.reduceLT, Int.reduceNeg, reduceCtorEq, r4, r5, r9, r10, r11, r43, r44, r45, c1]
      have hg := hgo (by omega)
      rw [show l.length + 4 - (l.length + 4) = 0 by omega] at hg
      have hpub : pubS s n hd l f = (p.s, 0) := hg
      refine ⟨f, F', hf, by rw [hpub], by rw [hpub]; exact hfs, ⟨cxH.size, cxH.old, fun g g1 g2 _ => cxH.get g g1 g2 (by show g ≠ H2.size; omega)⟩⟩
end Go.Proofs.YtgigigchjnnonaaGreatDoor
namespace Go.Proofs.YtgigigchjnnonaaGreatDoor
open Go Go.V
set_option maxHeartbeats 1600000 in
theorem F43 (v u : Value) (p k : Int) (xs deg : List Int) (ds : List Bool) (H : Heap) (hv : Chk H 3 4 v p xs ds) (hu : Ints H 3 .i64 u deg) (hl : xs.length ≤ 140737488350000) :
    Fun Tryz.prog 43 #[v, u, .int .i64 k] H (fun r H' => r = .bool (fitsC xs ds deg k) ∧ Ext H H') := by
  obtain ⟨a, b, rfl, ha, hb⟩ := hv
  obtain ⟨a1, a2, rfl⟩ := ha.form
  obtain ⟨b1, b2, rfl⟩ := hb.form
  obtain ⟨u1, u2, rfl⟩ := hu.form
  have x1 : Ext H (H.push (.cells #[.int .i64 p, .slice a1 xs.length a2, .slice b1 ds.length b2] 28)) := Ext.push _
  refine fun_of mixed (args := [_, _, _]) Tryz.func43 Tryz.ntmps43 b43 r43 rfl ?_
  have e1 : ((xs.length : Int) = deg.length) = (xs.length = deg.length) := by simp; omega
  by_cases h1 : xs.length = deg.length
  rotate_left
  · simp only [go_sem, ↓reduceIte, Nat.reduceEqDiff, Nat.reduceLeDiff, Nat.reduceAdd, Nat.reduceMul, Nat.reduceSub, Nat.reduceBEq, Nat.reduceGT, Nat.reduceLT, Int.reduceLE, Int.reduceLT, Int.reduceNeg, reduceCtorEq, e1, h1]
    refine ⟨?_, x1⟩
    simp [fitsC, h1]
  have e1t : ((xs.length : Int) = deg.length) = True := by simp; omega
  by_cases h2 : (ds.length : Int) = k
  rotate_left
  · simp only [go_sem, ↓reduceIte, Nat.reduceEqDiff, Nat.reduceLeDiff, Nat.reduceAdd, Nat.reduceMul, Nat.reduceSub, Nat.reduceBEq, Nat.reduceGT, Nat.reduceLT, Int.reduceLE, Int.reduceLT, Int.reduceNeg, reduceCtorEq, e1t, h2]
    refine ⟨?_, x1⟩
    simp [fitsC, h2]
  have hm : fitsC xs ds deg k = decide (∀ i, i < xs.length → xs.getD i 0 ≤ deg.getD i 0) := by
    simp only [fitsC, h1, h2, true_and]
  rw [hm]
  simp only [go_sem, ↓reduceIte, Nat.reduceEqDiff, Nat.reduceLeDiff, Nat.reduceAdd, Nat.reduceMul, Nat.reduceSub, Nat.reduceBEq, Nat.reduceGT, Nat.reduceLT, Int.reduceLE, Int.reduceLT, Int.reduceNeg, reduceCtorEq, e1t, h2]
  obtain ⟨H1, hH⟩ : ∃ H1, H1 = H.push (.cells #[.int .i64 p, .slice a1 xs.length a2, .slice b1 ds.length b2] 28) := ⟨_, rfl⟩
  rw [← hH] at x1 ⊢
  refine LoopI.by mixed (fun ρ H' => H1 = H' ∧ ∃ i : Nat, ρ 1 = .slice u1 deg.length u2 ∧ ρ 23 = .slice a1 xs.length a2 ∧ ρ 24 = .int .i64 xs.length ∧ ρ 25 = .int .i64 i ∧ i ≤ xs.length ∧ ∀ j, j < i → xs.getD j 0 ≤ deg.getD j 0) (fun ρ _ => xs.length - (iof (ρ 25)).toNat) ?_ ?_
  · exact ⟨rfl, 0, by simp only [go_sem, ↓reduceIte, Nat.reduceEqDiff, Nat.reduceLeDiff, Nat.reduceAdd, Nat.reduceMul, Nat.reduceSub, Nat.reduceBEq, Nat.reduceGT, Nat.reduceLT, Int.reduceLE, Int.reduceLT, Int.reduceNeg, reduceCtorEq], by simp only [go_sem, ↓reduceIte, Nat.reduceEqDiff, Nat.reduceLeDiff, Nat.reduceAdd, Nat.reduceMul, Nat.reduceSub, Nat.reduceBEq, Nat.reduceGT, Nat.reduceLT, Int.reduceLE, Int.reduceLT, Int.reduceNeg, reduceCtorEq], by simp only [go_sem, ↓reduceIte, Nat.reduceEqDiff, Nat.reduceLeDiff, Nat.reduceAdd, Nat.reduceMul, Nat.reduceSub, Nat.reduceBEq, Nat.reduceGT, Nat.reduceLT, Int.reduceLE, Int.reduceLT, Int.reduceNeg, reduceCtorEq], by simp only [go_sem, ↓reduceIte, Nat.reduceEqDiff, Nat.reduceLeDiff, Nat.reduceAdd, Nat.reduceMul, Nat.reduceSub, Nat.reduceBEq, Nat.reduceGT, Nat.reduceLT, Int.reduceLE, Int.reduceLT, Int.reduceNeg, reduceCtorEq]; rfl, by omega, fun j hj => absurd hj (by omega)⟩
  rintro ρ _ ⟨rfl, i, e1, e23, e24, e25, hi, hall⟩
  by_cases hlt : i < xs.length
  · have ha' := ha.ext x1
    have hu' := hu.ext x1
    obtain ⟨b, o, rfl⟩ := ha'.at hlt
    have g1 := ha'.get hlt
    obtain ⟨b', o', rfl⟩ := hu'.at (show i < deg.length by omega)
    have g2 := hu'.get (show i < deg.length by omega)
    have c1 : (i : Int) < xs.length := by omega
    have c2 : (i : Int) < deg.length := by omega
    have c0 : (0 : Int) ≤ i := by omega
    by_cases k1 : deg.getD i 0 < xs.getD i 0
    · simp only [go_sem, ↓reduceIte, Nat.reduceEqDiff, Nat.reduceLeDiff, Nat.reduceAdd, Nat.reduceMul, Nat.reduceSub, Nat.reduceBEq, Nat.reduceGT, Nat.reduceLT, Int.reduceLE, Int.reduceLT, Int.reduceNeg, reduceCtorEq, c43_L0, e1, e23, e24, e25, c0, c1, c2, g1, g2, k1]
      have : ¬ ∀ i, i < xs.length → xs.getD i 0 ≤ deg.getD i 0 := fun h => by have := h i hlt; omega
      exact ⟨by simpa using this, x1⟩
    simp only [go_sem, ↓reduceIte, Nat.reduceEqDiff, Nat.reduceLeDiff, Nat.reduceAdd, Nat.reduceMul, Nat.reduceSub, Nat.reduceBEq, Nat.reduceGT, Nat.reduceLT, Int.reduceLE, Int.reduceLT, Int.reduceNeg, reduceCtorEq, c43_L0, e1, e23, e24, e25, c0, c1, c2, g1, g2, k1]
    rw [w64_id (by omega) (by omega)]
    refine ⟨Hold.mk ⟨rfl, i + 1, by simp only [go_sem, ↓reduceIte, Nat.reduceEqDiff, Nat.reduceLeDiff, Nat.reduceAdd, Nat.reduceMul, Nat.reduceSub, Nat.reduceBEq, Nat.reduceGT, Nat.reduceLT, Int.reduceLE, Int.reduceLT, Int.reduceNeg, reduceCtorEq, e1], by simp only [go_sem, ↓reduceIte, Nat.reduceEqDiff, Nat.reduceLeDiff, Nat.reduceAdd, Nat.reduceMul, Nat.reduceSub, Nat.reduceBEq, Nat.reduceGT, Nat.reduceLT, Int.reduceLE, Int.reduceLT, Int.reduceNeg, reduceCtorEq, e23], by simp only [go_sem, ↓reduceIte, Nat.reduceEqDiff, Nat.reduceLeDiff, Nat.reduceAdd, Nat.reduceMul, Nat.reduceSub, Nat.reduceBEq, Nat.reduceGT, Nat.reduceLT, Int.reduceLE, Int.reduceLT, Int.reduceNeg, reduceCtorEq, e24], by simp only [go_sem, ↓reduceIte, Nat.reduceEqDiff, Nat.reduceLeDiff, Nat.reduceAdd, Nat.reduceMul, Nat.reduceSub, Nat.reduceBEq, Nat.reduceGT, Nat.reduceLT, Int.reduceLE, Int.reduceLT, Int.reduceNeg, reduceCtorEq]; rfl, by omega, fun j hj => ?_⟩, by omega⟩
    rcases (by omega : j < i ∨ j = i) with h | rfl
    · exact hall j h
    · omega
  · have c1 : ¬ (i : Int) < xs.length := by omega
    have : i = xs.length := by omega
    subst this
    simp only [go_sem, ↓reduceIte, Nat.reduceEqDiff, Nat.reduceLeDiff, Nat.reduceAdd, Nat.reduceMul, Nat.reduceSub, Nat.reduceBEq, Nat.reduceGT, Nat.reduceLT, Int.reduceLE, Int.reduceLT, Int.reduceNeg, reduceCtorEq, c43_L0, e1, e23, e24, e25, c1]
    exact ⟨by rw [decide_eq_true hall], x1⟩
/-- What the call made stands away from what there was. -/
theorem aw_own {H H' : Heap} {F : Nat → Prop} {u : Value} {xs : List Int} {B : Nat} (ho : V.Own H' B 5 1 u (xs.map (.int .u8))) (hF : ∀ g, F g → g < B) : Aw H' F H'.size u xs :=
  ⟨ho.sl, .inr fun g hg => ⟨fun e => by have := hF g e; have := (ho.blk hg).1; omega, (ho.blk hg).2.1⟩⟩
theorem awl_own {H H' : Heap} {F : Nat → Prop} {v : Value} {l : List (List Int)} {B : Nat} (ho : OwnLists H' B 53 5 v l) (hF : ∀ g, F g → g < B) : ∃ vs, AwL H' F H'.size v vs l := by
  obtain ⟨vs, h1, h2, _⟩ := ho
  exact ⟨vs, h1.sl, .inr fun g hg => ⟨fun e => by have := hF g e; have := (h1.blk hg).1; omega, (h1.blk hg).2.1⟩, h2.mono fun _ _ h => aw_own (H := H) h hF⟩
set_option maxHeartbeats 1600000 in
theorem F12 {F : Nat → Prop} {b : Nat} {s : St} (v : Value) (gen p : Int) (xs : List Int) (ds : List Bool) (H : Heap) (h : FsH H F b s) (ok : Ok s) (ho : s.ops < 1000000000) (h0 : ¬ F 0) (ht : CrcTab H) (tab : Tab H) (hv : Chk H 3 4 v p xs ds) (hm : mayC gen p xs ds = true) (hl : xs.length ≤ 5000) :
    Fun Tryz.prog 12 #[ptrOf b, .int .i64 gen, v] H (fun r H' => ∃ f F', f ∉ s.held ∧ r = .int .i64 (pubS s (nameS gen) (chkHead gen p xs ds) (chkData xs ds) f).2 ∧ FsH H' F' b (pubS s (nameS gen) (chkHead gen p xs ds) (chkData xs ds) f).1 ∧ ChX (fun _ => False) F F' H H') := by
  have hv' := hv
  obtain ⟨a, c, rfl, _, _⟩ := hv
  have x1 : Ext H (H.push (.cells #[.int .i64 p, a, c] 28)) := Ext.push _
  obtain ⟨m1, m2, m3, m4, m5, m6, m7⟩ := mayC_iff.1 hm
  have lF : ∀ g, F g → g < H.size := fun g hg => FsH.lt h hg
  refine fun_of mixed (args := [_, _, _]) Tryz.func12 Tryz.ntmps12 b12 r12 rfl ?_
  simp only [go_sem, ↓reduceIte, Nat.reduceEqDiff, Nat.reduceLeDiff, Nat.reduceAdd, Nat.reduceMul, Nat.reduceSub, Nat.reduceBEq, Nat.reduceGT, Nat.reduceLT, Int.reduceLE, Int.reduceLT, Int.reduceNeg, reduceCtorEq, ptrOf]
  obtain ⟨H1, hH⟩ : ∃ H1, H1 = H.push (.cells #[.int .i64 p, a, c] 28) := ⟨_, rfl⟩
  rw [← hH] at x1 ⊢
  refine FunI.by (F11 _ gen p xs ds H1 (hv'.ext x1)) ?_
  rintro _ H2 ⟨x2, hr⟩
  rcases hr with ⟨e, _⟩ | ⟨_, hd, l, rfl, ohd, ol⟩
  · rw [hm] at e; cases e
  have x12 := x1.trans (x2.mono x1.size)
  obtain ⟨ha1, ha2, rfl⟩ := Ints.form (xs := chkHead gen p xs ds) (k := .u8) ohd.sl
  obtain ⟨la1, la2, rfl⟩ := ol.lists.form
  simp only [go_sem, ↓reduceIte, Nat.reduceEqDiff, Nat.reduceLeDiff, Nat.reduceAdd, Nat.reduceMul, Nat.reduceSub, Nat.reduceBEq, Nat.reduceGT, Nat.reduceLT, Int.reduceLE, Int.reduceLT, Int.reduceNeg, reduceCtorEq, ptrOf]
  refine FunI.by (F30 gen H2 (tab.ext x12) (by omega) (by omega)) ?_
  rintro _ H3 ⟨rfl, x3⟩
  have x13 := x12.trans (x3.mono x12.size)
  have A3 := aw_own (H := H) (F := F) (ohd.ext x3) (fun g hg => Nat.lt_of_lt_of_le (lF g hg) x1.size)
  obtain ⟨vs, L3⟩ := awl_own (H := H) (F := F) (ol.ext x3) (fun g hg => Nat.lt_of_lt_of_le (lF g hg) x1.size)
  have hh := head_len gen p xs ds
  have hll := chk_len (ds := ds) hl
  have hnm : (nameS gen).size ≤ 1000000 := by
    have := itoa_len (n := gen) (by omega) (by omega)
    have e5 : (nameS gen).size = 5 + (Lib.itoa gen).length := by rw [nameS, ByteArray.size_append]; rfl
    omega
  simp only [go_sem, ↓reduceIte, Nat.reduceEqDiff, Nat.reduceLeDiff, Nat.reduceAdd, Nat.reduceMul, Nat.reduceSub, Nat.reduceBEq, Nat.reduceGT, Nat.reduceLT, Int.reduceLE, Int.reduceLT, Int.reduceNeg, reduceCtorEq, ptrOf]
  refine FunI.by (F34 (n := nameS gen) (h.ext x13) ok ho h0 (ht.ext x13) A3 L3 (head_wf _ _ _ _) (data_wf _ _) (by omega) (fun x hx => by have := (data_small hm x hx).2; omega) (by omega) hnm) ?_
  rintro _ H4 ⟨f, F', hf, rfl, h4, cx⟩
  simp only [go_sem, ↓reduceIte, Nat.reduceEqDiff, Nat.reduceLeDiff, Nat.reduceAdd, Nat.reduceMul, Nat.reduceSub, Nat.reduceBEq, Nat.reduceGT, Nat.reduceLT, Int.reduceLE, Int.reduceLT, Int.reduceNeg, reduceCtorEq]
  exact ⟨f, F', hf, rfl, h4, (Ext.chx x13).trans cx⟩
theorem hput_push3 {H : Heap} {z0 z1 z2 a b c : Value} {e : TypeId} : hput (H.push (.cells #[z0, z1, z2] e)) H.size 0 [a, b, c] = H.push (.cells #[a, b, c] e) := hput_push rfl
/-- What Load answers. -/
def CLoaded (s : St) (gen k : Int) (deg : List Int) (H : Heap) (r : Value) (H' : Heap) : Prop := Ext H H' ∧ ∃ hd l e, Loads s (nameS gen) hd l e ∧ match cloadS gen hd l e deg k with
  | none => r = .tuple #[.agg #[.int .i64 0, .slice none 0 0, .slice none 0 0], .bool false, .int .i64 0]
  | some (p, xs, ds) => ∃ a b, r = .tuple #[.agg #[.int .i64 p, a, b], .bool true, .int .i64 0] ∧ V.Own H' H.size 3 1 a (xs.map (.int .i64)) ∧ V.Own H' H.size 4 1 b (ds.map .bool)
set_option maxHeartbeats 3200000 in
theorem F18 {F : Nat → Prop} {b : Nat} {s : St} (u : Value) (gen k : Int) (deg : List Int) (H : Heap) (h : FsH H F b s) (ok : Ok s) (on : s.off = false) (ht : CrcTab H) (tab : Tab H) (hu : Ints H 3 .i64 u deg) (hg : 1 ≤ gen ∧ gen ≤ 2147483647)
    (hk : ∀ hd l e, Loads s (nameS gen) hd l e → Byt hd ∧ (∀ y ∈ l, Byt y ∧ y.length ≤ 140737488350000) ∧ l.length ≤ 1000000000) :
    Fun Tryz.prog 18 #[ptrOf b, .int .i64 gen, u, .int .i64 k] H (CLoaded s gen k deg H) := by
  obtain ⟨u1, u2, rfl⟩ := hu.form
  have x1 : Ext H (H.push (.cells #[.int .i64 0, .slice none 0 0, .slice none 0 0] 28)) := Ext.push _
  have k1 : (H.push (.cells #[.int .i64 0, .slice none 0 0, .slice none 0 0] 28))[H.size]? = some (.cells #[.int .i64 0, .slice none 0 0, .slice none 0 0] 28) := push_new
  have s1 : (H.push (.cells #[.int .i64 0, .slice none 0 0, .slice none 0 0] 28)).size = H.size + 1 := by simp
  refine fun_of mixed (args := [_, _, _, _]) Tryz.func18 Tryz.ntmps18 b18 r18 rfl ?_
  simp only [go_sem, ↓reduceIte, Nat.reduceEqDiff, Nat.reduceLeDiff, Nat.reduceAdd, Nat.reduceMul, Nat.reduceSub, Nat.reduceBEq, Nat.reduceGT, Nat.reduceLT, Int.reduceLE, Int.reduceLT, Int.reduceNeg, reduceCtorEq, ptrOf]
  obtain ⟨H1, hH⟩ : ∃ H1, H1 = H.push (.cells #[.int .i64 0, .slice none 0 0, .slice none 0 0] 28) := ⟨_, rfl⟩
  rw [← hH] at x1 k1 s1 ⊢
  have bad : ∀ {H' : Heap} {hd l e}, H1.size ≤ H'.size → H'[H.size]? = H1[H.size]? → Ext H H' → Loads s (nameS gen) hd l e → cloadS gen hd l e deg k = none →
      hcan H' H.size 0 3 ∧ loadV (tyOf Tryz.prog) 28 (.pointer (some ⟨H.size, 0, none⟩)) (hput H' H.size 0 [.int .i64 0, .slice none 0 0, .slice none 0 0]) fun v =>
        CLoaded s gen k deg H (.tuple #[v, .bool false, .int .i64 0]) (hput H' H.size 0 [.int .i64 0, .slice none 0 0, .slice none 0 0]) := by
    intro H' hd l e hs hc hx hL hn
    rw [k1] at hc
    refine ⟨hcan_of hc (by decide), ?_⟩
    simp only [loadV, ty28]
    refine ⟨_, hgets_put hc (by decide) rfl, hx.hput (Nat.le_refl _), hd, l, e, hL, ?_⟩
    rw [hn]
  refine FunI.by (F41 (h.ext x1)) ?_
  rintro _ _ ⟨rfl, rfl⟩
  simp only [go_sem, ↓reduceIte, Nat.reduceEqDiff, Nat.reduceLeDiff, Nat.reduceAdd, Nat.reduceMul, Nat.reduceSub, Nat.reduceBEq, Nat.reduceGT, Nat.reduceLT, Int.reduceLE, Int.reduceLT, Int.reduceNeg, reduceCtorEq, ptrOf, on, Bool.not_false]
  refine FunI.by (F30 gen H1 (tab.ext x1) (by omega) (by omega)) ?_
  rintro _ H2 ⟨rfl, x2⟩
  have x12 := x1.trans (x2.mono x1.size)
  simp only [go_sem, ↓reduceIte, Nat.reduceEqDiff, Nat.reduceLeDiff, Nat.reduceAdd, Nat.reduceMul, Nat.reduceSub, Nat.reduceBEq, Nat.reduceGT, Nat.reduceLT, Int.reduceLE, Int.reduceLT, Int.reduceNeg, reduceCtorEq, ptrOf]
  refine FunI.by (F42 (n := nameS gen) (h.ext x12) ok (ht.ext x12)) ?_
  rintro _ H3 ⟨hd, l, e, u3, v3, rfl, hL, x3, o3, ol3⟩
  have x13 := x12.trans (x3.mono x12.size)
  have x23 := x2.trans (x3.mono x2.size)
  obtain ⟨hb, hbl, hll⟩ := hk hd l e hL
  obtain ⟨a3, c3, rfl⟩ := Ints.form (xs := hd) (k := .u8) o3.sl
  obtain ⟨l3, m3, rfl⟩ := ol3.lists.form
  by_cases e0 : e = 0
  rotate_left
  · simp only [go_sem, ↓reduceIte, Nat.reduceEqDiff, Nat.reduceLeDiff, Nat.reduceAdd, Nat.reduceMul, Nat.reduceSub, Nat.reduceBEq, Nat.reduceGT, Nat.reduceLT, Int.reduceLE, Int.reduceLT, Int.reduceNeg, reduceCtorEq, e0]
    exact ⟨by decide, bad x23.size (x23.get _ (by omega)) x13 hL (cloadS_bad e0)⟩
  subst e0
  simp only [go_sem, ↓reduceIte, Nat.reduceEqDiff, Nat.reduceLeDiff, Nat.reduceAdd, Nat.reduceMul, Nat.reduceSub, Nat.reduceBEq, Nat.reduceGT, Nat.reduceLT, Int.reduceLE, Int.reduceLT, Int.reduceNeg, reduceCtorEq]
  refine FunI.by (F17 gen _ _ hd l H3 o3.sl hb ol3.lists hbl hll) ?_
  rintro _ H4 ⟨x4, hr⟩
  have x14 := x13.trans (x4.mono x13.size)
  have x24 := x23.trans (x4.mono x23.size)
  cases hdec : decS gen hd l with
  | none =>
    rw [hdec] at hr
    subst hr
    simp only [go_sem, ↓reduceIte, Nat.reduceEqDiff, Nat.reduceLeDiff, Nat.reduceAdd, Nat.reduceMul, Nat.reduceSub, Nat.reduceBEq, Nat.reduceGT, Nat.reduceLT, Int.reduceLE, Int.reduceLT, Int.reduceNeg, reduceCtorEq, hput_push3, hcan_push, List.all_cons, List.all_nil, Value.oneCell', Int.reduceEq]
    have x5 : Ext H4 (H4.push (.cells #[.int .i64 0, .slice none 0 0, .slice none 0 0] 28)) := Ext.push _
    have x25 := x24.trans (x5.mono x24.size)
    exact bad x25.size (x25.get _ (by omega)) (x14.trans (x5.mono x14.size)) hL (by unfold cloadS; rw [hdec]; rfl)
  | some q =>
    obtain ⟨p, xs, ds⟩ := q
    rw [hdec] at hr
    obtain ⟨a, c, rfl, oa, oc⟩ := hr
    have ia : Ints H4 3 .i64 a xs := oa.sl
    have ic : Bls H4 4 c ds := oc.sl
    obtain ⟨qa, ra, rfl⟩ := ia.form
    obtain ⟨qc, rc, rfl⟩ := ic.form
    have x5 : Ext H4 (H4.push (.cells #[.int .i64 p, .slice qa xs.length ra, .slice qc ds.length rc] 28)) := Ext.push _
    obtain ⟨H5, hH5⟩ : ∃ H5, H5 = H4.push (.cells #[.int .i64 p, .slice qa xs.length ra, .slice qc ds.length rc] 28) := ⟨_, rfl⟩
    have k5 : H5[H4.size]? = some (.cells #[.int .i64 p, .slice qa xs.length ra, .slice qc ds.length rc] 28) := by rw [hH5]; exact push_new
    have s5 : H5.size = H4.size + 1 := by rw [hH5]; simp
    simp only [go_sem, ↓reduceIte, Nat.reduceEqDiff, Nat.reduceLeDiff, Nat.reduceAdd, Nat.reduceMul, Nat.reduceSub, Nat.reduceBEq, Nat.reduceGT, Nat.reduceLT, Int.reduceLE, Int.reduceLT, Int.reduceNeg, reduceCtorEq, hput_push3, hcan_push, List.all_cons, List.all_nil, Value.oneCell', Int.reduceEq]
    rw [← hH5] at x5 ⊢
    have x15 := x14.trans (x5.mono x14.size)
    have x25 := x24.trans (x5.mono x24.size)
    have hxl : xs.length ≤ 140737488350000 := by
      have h3 := (decS_iff hb (fun y hy => (hbl y hy).1)).1 hdec
      obtain ⟨m1, m2, m3, m4, m5, m6, m7⟩ := mayC_iff.1 h3.1
      omega
    refine FunI.by (F43 _ _ p k xs deg ds H5 ⟨_, _, rfl, ia.ext x5, ic.ext x5⟩ (hu.ext x15) hxl) ?_
    rintro _ H6 ⟨rfl, x6⟩
    have x16 := x15.trans (x6.mono x15.size)
    have x26 := x25.trans (x6.mono x25.size)
    cases hf : fitsC xs ds deg k with
    | false =>
      simp only [go_sem, ↓reduceIte, Nat.reduceEqDiff, Nat.reduceLeDiff, Nat.reduceAdd, Nat.reduceMul, Nat.reduceSub, Nat.reduceBEq, Nat.reduceGT, Nat.reduceLT, Int.reduceLE, Int.reduceLT, Int.reduceNeg, reduceCtorEq]
      exact ⟨by decide, bad x26.size (x26.get _ (by omega)) x16 hL (by unfold cloadS; rw [hdec]; simp [hf])⟩
    | true =>
      have k6 : H6[H4.size]? = some (.cells #[.int .i64 p, .slice qa xs.length ra, .slice qc ds.length rc] 28) := (x6.get _ (by omega)).trans k5
      have j0 : hget H6 H4.size 0 = some (.int .i64 p) := by rw [hget_cells k6]; rfl
      have j1 : hget H6 H4.size 1 = some (.slice qa xs.length ra) := by rw [hget_cells k6]; rfl
      have j2 : hget H6 H4.size 2 = some (.slice qc ds.length rc) := by rw [hget_cells k6]; rfl
      simp only [go_sem, ↓reduceIte, Nat.reduceEqDiff, Nat.reduceLeDiff, Nat.reduceAdd, Nat.reduceMul, Nat.reduceSub, Nat.reduceBEq, Nat.reduceGT, Nat.reduceLT, Int.reduceLE, Int.reduceLT, Int.reduceNeg, reduceCtorEq, j0, j1, j2]
      have k7 : H6[H.size]? = some (.cells #[.int .i64 0, .slice none 0 0, .slice none 0 0] 28) := (x26.get _ (by omega)).trans k1
      refine ⟨rfl, hcan_of k7 (by decide), ?_⟩
      simp only [loadV, ty28]
      have hne : ∀ g, H3.size ≤ g → g ≠ H.size := fun g hg e => by have := x23.size; omega
      have oa6 : V.Own H6 H3.size 3 1 (.slice qa xs.length ra) (xs.map (.int .i64)) := (oa.ext x5).ext x6
      have oc6 : V.Own H6 H3.size 4 1 (.slice qc ds.length rc) (ds.map .bool) := (oc.ext x5).ext x6
      refine ⟨_, hgets_put k7 (by simp) rfl, x16.hput (Nat.le_refl _), hd, l, 0, hL, ?_⟩
      have hcl : cloadS gen hd l 0 deg k = some (p, xs, ds) := by unfold cloadS; rw [hdec]; simp [hf]
      rw [hcl]
      exact ⟨_, _, rfl, (oa6.keep fun g hg => hput_other _ _ _ _ (hne g (oa6.blk hg).1)).mono x13.size, (oc6.keep fun g hg => hput_other _ _ _ _ (hne g (oc6.blk hg).1)).mono x13.size⟩
end Go.Proofs.YtgigigchjnnonaaGreatDoor
namespace Go.V
open Go
theorem and_le (x : Int) (m : Nat) (hm : m < 9223372036854775808) : 0 ≤ ibits .and .i64 x (m : Int) ∧ ibits .and .i64 x (m : Int) ≤ m := by
  show 0 ≤ IntKind.i64.wrap (((BitVec.ofInt 64 x &&& BitVec.ofInt 64 (m : Int)).toNat : Nat) : Int) ∧ IntKind.i64.wrap (((BitVec.ofInt 64 x &&& BitVec.ofInt 64 (m : Int)).toNat : Nat) : Int) ≤ m
  have h : (BitVec.ofInt 64 x &&& BitVec.ofInt 64 (m : Int)).toNat ≤ m := by
    rw [BitVec.toNat_and]
    refine Nat.le_trans Nat.and_le_right ?_
    rw [BitVec.toNat_ofInt]
    omega
  rw [w64_id (by omega) (by omega)]
  omega
/-- A number of the checkpoint, and a degree that is not below. -/
def estA (est : List Int) (j : Nat) : Int := ibits .and .i64 (est.getD j 0) 16777215
def degA (est more : List Int) (j : Nat) : Int := if j < more.length then min (estA est j + ibits .and .i64 (more.getD j 0) 7) 16777215 else estA est j
def estN (est : List Int) (i : Nat) : List Int := (List.range i).map (estA est)
def degN (est more : List Int) (i : Nat) : List Int := (List.range i).map (degA est more)
theorem estA_rng (est : List Int) (j : Nat) : 0 ≤ estA est j ∧ estA est j ≤ 16777215 := and_le _ 16777215 (by omega)
theorem degA_rng (est more : List Int) (j : Nat) : estA est j ≤ degA est more j ∧ degA est more j ≤ 16777215 := by
  have h1 := estA_rng est j
  have h2 : 0 ≤ ibits .and .i64 (more.getD j 0) 7 ∧ ibits .and .i64 (more.getD j 0) 7 ≤ 7 := and_le (more.getD j 0) 7 (by omega)
  unfold degA
  split <;> omega
theorem range_snoc (f : Nat → Int) (i : Nat) : (List.range (i + 1)).map f = (List.range i).map f ++ [f i] := by rw [List.range_succ, List.map_append]; rfl
end Go.V
namespace Go.Proofs.YtgigigchjnnonaaGreatDoor
open Go Go.V
/-- What fitting makes of the numbers: the first 5000. -/
def fitN (est : List Int) : Nat := min est.length 5000
set_option maxHeartbeats 6400000 in
theorem F8 (u v w : Value) (est more : List Int) (ds : List Bool) (H : Heap) (hu : Ints H 3 .i64 u est) (hv : Bls H 4 v ds) (hw : Ints H 3 .i64 w more) :
    Fun Tryz.prog 8 #[u, v, w] H (fun r H' => ∃ a c d, r = .tuple #[.agg #[.int .i64 more.length, a, c], d] ∧ V.Own H' H.size 3 1 a ((estN est (fitN est)).map (.int .i64)) ∧ V.Own H' H.size 4 1 c ((ds.take 1000).map .bool) ∧ V.Own H' H.size 3 1 d ((degN est more (fitN est)).map (.int .i64)) ∧ Apart a d ∧ Ext H H') := by
  obtain ⟨u1, u2, rfl⟩ := hu.form
  obtain ⟨v1, v2, rfl⟩ := hv.form
  obtain ⟨w1, w2, rfl⟩ := hw.form
  refine fun_of mixed (args := [_, _, _]) Tryz.func8 Tryz.ntmps8 b8 r8 rfl ?_
  simp only [go_sem, ↓reduceIte, Nat.reduceEqDiff, Nat.reduceLeDiff, Nat.reduceAdd, Nat.reduceMul, Nat.reduceSub, Nat.reduceBEq, Nat.reduceGT, Nat.reduceLT, Int.reduceLE, Int.reduceLT, Int.reduceNeg, reduceCtorEq]
  let B := H.size + 2
  refine LoopI.by mixed (fun ρ H' => ∃ (i : Nat) (a d : Value), ρ 0 = .slice u1 est.length u2 ∧ ρ 1 = .slice v1 ds.length v2 ∧ ρ 2 = .slice w1 more.length w2 ∧ ρ 6 = .pointer (some ⟨H.size, 0, none⟩) ∧ ρ 8 = .pointer (some ⟨H.size + 1, 0, none⟩) ∧ ρ 9 = d ∧ ρ 10 = .int .i64 i ∧ i ≤ fitN est ∧
    H'[H.size]? = some (.cells #[.int .i64 0, .slice none 0 0, .slice none 0 0] 28) ∧ H'[H.size + 1]? = some (.cells #[.int .i64 0, a, .slice none 0 0] 28) ∧ V.Own H' (H.size + 2) 3 1 a ((estN est i).map (.int .i64)) ∧ V.Own H' (H.size + 2) 3 1 d ((degN est more i).map (.int .i64)) ∧ Apart a d ∧ Ext H H') (fun ρ _ => fitN est - (iof (ρ 10)).toNat) ?_ ?_
  · refine ⟨0, .slice none 0 0, .slice none 0 0, by simp only [go_sem, ↓reduceIte, Nat.reduceEqDiff, Nat.reduceLeDiff, Nat.reduceAdd, Nat.reduceMul, Nat.reduceSub, Nat.reduceBEq, Nat.reduceGT, Nat.reduceLT, Int.reduceLE, Int.reduceLT, Int.reduceNeg, reduceCtorEq], by simp only [go_sem, ↓reduceIte, Nat.reduceEqDiff, Nat.reduceLeDiff, Nat.reduceAdd, Nat.reduceMul, Nat.reduceSub, Nat.reduceBEq, Nat.reduceGT, Nat.reduceLT, Int.reduceLE, Int.reduceLT, Int.reduceNeg, reduceCtorEq], by simp only [go_sem, ↓reduceIte, Nat.reduceEqDiff, Nat.reduceLeDiff, Nat.reduceAdd, Nat.reduceMul, Nat.reduceSub, Nat.reduceBEq, Nat.reduceGT, Nat.reduceLT, Int.reduceLE, Int.reduceLT, Int.reduceNeg, reduceCtorEq], by simp only [go_sem, ↓reduceIte, Nat.reduceEqDiff, Nat.reduceLeDiff, Nat.reduceAdd, Nat.reduceMul, Nat.reduceSub, Nat.reduceBEq, Nat.reduceGT, Nat.reduceLT, Int.reduceLE, Int.reduceLT, Int.reduceNeg, reduceCtorEq], by simp only [go_sem, ↓reduceIte, Nat.reduceEqDiff, Nat.reduceLeDiff, Nat.reduceAdd, Nat.reduceMul, Nat.reduceSub, Nat.reduceBEq, Nat.reduceGT, Nat.reduceLT, Int.reduceLE, Int.reduceLT, Int.reduceNeg, reduceCtorEq]; simp, by simp only [go_sem, ↓reduceIte, Nat.reduceEqDiff, Nat.reduceLeDiff, Nat.reduceAdd, Nat.reduceMul, Nat.reduceSub, Nat.reduceBEq, Nat.reduceGT, Nat.reduceLT, Int.reduceLE, Int.reduceLT, Int.reduceNeg, reduceCtorEq], by simp only [go_sem, ↓reduceIte, Nat.reduceEqDiff, Nat.reduceLeDiff, Nat.reduceAdd, Nat.reduceMul, Nat.reduceSub, Nat.reduceBEq, Nat.reduceGT, Nat.reduceLT, Int.reduceLE, Int.reduceLT, Int.reduceNeg, reduceCtorEq]; rfl, Nat.zero_le _, ?_, ?_, Own.nil, Own.nil, .inl rfl, (Ext.push _).trans ((Ext.push _).mono (by simp))⟩
    · rw [push_old (by simp)]; exact push_new
    · have := push_new (H := H.push (.cells #[.int .i64 0, .slice none 0 0, .slice none 0 0] 28)) (x := .cells #[.int .i64 0, .slice none 0 0, .slice none 0 0] 28)
      simpa using this
  · rintro ρ H' ⟨i, a, d, e0, e1, e2, e6, e8, e9, e10, hi, k1, k2, oa, od, ad, hx⟩
    by_cases hlt : i < fitN est
    · have hlt1 : i < est.length := by unfold fitN at hlt; omega
      have hlt2 : i < 5000 := by unfold fitN at hlt; omega
      have c0 : (0 : Int) ≤ i := by omega
      have c1 : (i : Int) < est.length := by omega
      have c2 : (i : Int) < 5000 := by omega
      obtain ⟨b, o, rfl⟩ := hu.at hlt1
      have g1 := (hu.ext hx).get hlt1
      have ea : ibits .and .i64 (est.getD i 0) 16777215 = estA est i := rfl
      have k21 : hget H' (H.size + 1) 1 = some a := by rw [hget_cells k2]; rfl
      obtain ⟨xa, hxa⟩ : ∃ x, x = estA est i := ⟨_, rfl⟩
      have rA := estA_rng est i
      have rD := degA_rng est more i
      have r7 : 0 ≤ ibits .and .i64 (more.getD i 0) 7 ∧ ibits .and .i64 (more.getD i 0) 7 ≤ 7 := and_le (more.getD i 0) 7 (by omega)
      simp only [go_sem, ↓reduceIte, Nat.reduceEqDiff, Nat.reduceLeDiff, Nat.reduceAdd, Nat.reduceMul, Nat.reduceSub, Nat.reduceBEq, Nat.reduceGT, Nat.reduceLT, Int.reduceLE, Int.reduceLT, Int.reduceNeg, reduceCtorEq, c8_L0, e0, e1, e2, e8, e9, e10, c0, c1, c2, g1, ea, k21]
      refine RunI.by (append_lit ty22 ty3 rfl (by decide) oa (ys := [.int .i64 (estA est i)]) (m := 1) rfl rfl (n := i + 1) (by simp [estN]) (by omega) (by omega) (by have := hx.size; have := (Array.getElem?_eq_some_iff.1 k2).1; omega)) ?_
      rintro a2 H2 ⟨oa2, gr, _⟩
      rw [show [Value.int .i64 (estA est i)] = [estA est i].map (.int .i64) from rfl, ← List.map_append, show estN est i ++ [estA est i] = estN est (i + 1) from (range_snoc _ _).symm] at oa2
      have hsz : H.size + 2 ≤ H'.size := by have := (Array.getElem?_eq_some_iff.1 k2).1; omega
      have nb : ∀ g, blk a = some g → H.size + 2 ≤ g := fun g hg => (oa.blk hg).1
      have q1 : H2[H.size]? = some (.cells #[.int .i64 0, .slice none 0 0, .slice none 0 0] 28) := (gr.but.get _ (by omega) fun e => by have := nb _ e.symm; omega).trans k1
      have q2 : H2[H.size + 1]? = some (.cells #[.int .i64 0, a, .slice none 0 0] 28) := (gr.but.get _ (by omega) fun e => by have := nb _ e.symm; omega).trans k2
      have od2 : V.Own H2 (H.size + 2) 3 1 d ((degN est more i).map (.int .i64)) := od.out gr.but ad.symm
      have ad2 : Apart a2 d := by
        rcases gr.at' with e | ⟨g, e, hg⟩
        · rcases ad with h | h
          · exact .inl (e.trans h)
          · right; rw [e]; exact h
        · right; rw [e]; intro hd; have := (od.blk hd.symm).2.1; omega
      have x2 : Ext H H2 := hx.trans ((gr.upto oa hsz).mono (by omega))
      obtain ⟨p2, l2, rfl⟩ := Ints.form (xs := estN est (i + 1)) (k := .i64) oa2.sl
      obtain ⟨H3, hH3⟩ : ∃ H3, H3 = hput H2 (H.size + 1) 1 [.slice p2 (estN est (i + 1)).length l2] := ⟨_, rfl⟩
      have z2 : H.size + 2 ≤ H2.size := by have := gr.but.size; omega
      have t1 : H3[H.size]? = some (.cells #[.int .i64 0, .slice none 0 0, .slice none 0 0] 28) := by rw [hH3, hput_other _ _ _ _ (by omega)]; exact q1
      have t2 : H3[H.size + 1]? = some (.cells #[.int .i64 0, .slice p2 (estN est (i + 1)).length l2, .slice none 0 0] 28) := by rw [hH3]; exact hput_same q2
      have x3 : Ext H H3 := by rw [hH3]; exact x2.hput (by omega)
      have oa3 : V.Own H3 (H.size + 2) 3 1 (.slice p2 (estN est (i + 1)).length l2) ((estN est (i + 1)).map (.int .i64)) := oa2.keep fun g hg => by rw [hH3]; exact hput_other _ _ _ _ (by have := (oa2.blk hg).1; omega)
      have od3 : V.Own H3 (H.size + 2) 3 1 d ((degN est more i).map (.int .i64)) := od2.keep fun g hg => by rw [hH3]; exact hput_other _ _ _ _ (by have := (od2.blk hg).1; omega)
      have hcn : hcan H2 (H.size + 1) 1 1 := hcan_of q2 (by simp)
      have z3 : H.size + 2 ≤ H3.size := by have := (Array.getElem?_eq_some_iff.1 t2).1; omega
      have fin : ∀ (ρ' : Env) (d2 : Value) (H4 : Heap), V.Own H4 (H.size + 2) 3 1 d2 ((degN est more i).map (.int .i64) ++ [.int .i64 (degA est more i)]) → Grow d H3 d2 H4 →
          H4[H.size]? = some (.cells #[.int .i64 0, .slice none 0 0, .slice none 0 0] 28) ∧ H4[H.size + 1]? = some (.cells #[.int .i64 0, .slice p2 (estN est (i + 1)).length l2, .slice none 0 0] 28) ∧ V.Own H4 (H.size + 2) 3 1 (.slice p2 (estN est (i + 1)).length l2) ((estN est (i + 1)).map (.int .i64)) ∧ V.Own H4 (H.size + 2) 3 1 d2 ((degN est more (i + 1)).map (.int .i64)) ∧ Apart (.slice p2 (estN est (i + 1)).length l2) d2 ∧ Ext H H4 := by
        intro ρ' d2 H4 od4 gr4
        have nd : ∀ g, blk d = some g → H.size + 2 ≤ g := fun g hg => (od3.blk hg).1
        rw [show [Value.int .i64 (degA est more i)] = [degA est more i].map (.int .i64) from rfl, ← List.map_append, show degN est more i ++ [degA est more i] = degN est more (i + 1) from (range_snoc _ _).symm] at od4
        refine ⟨(gr4.but.get _ (by omega) fun e => by have := nd _ e.symm; omega).trans t1, (gr4.but.get _ (by omega) fun e => by have := nd _ e.symm; omega).trans t2, oa3.out gr4.but ad2, od4, ?_, x3.trans ((gr4.upto od3 z3).mono (by omega))⟩
        rcases gr4.at' with e | ⟨g, e, hg⟩
        · unfold Apart; rw [e]; exact ad2
        · refine (show Apart d2 _ from .inr ?_).symm
          rw [e]; intro ha; have := (oa3.blk ha.symm).2.1; omega
      have w9 : 9223372036854775807 ≥ (i : Int) + 1 := by unfold fitN at hlt; omega
      by_cases hm : i < more.length
      · obtain ⟨wb, wo, rfl⟩ := hw.at hm
        have c3 : (i : Int) < more.length := by omega
        have g3 := (hw.ext x3).get hm
        have eD : degA est more i = if 16777215 < estA est i + ibits .and .i64 (more.getD i 0) 7 then 16777215 else estA est i + ibits .and .i64 (more.getD i 0) 7 := by unfold degA; rw [if_pos hm]; split <;> omega
        have ew : IntKind.i64.wrap (estA est i + ibits .and .i64 (more.getD i 0) 7) = estA est i + ibits .and .i64 (more.getD i 0) 7 := w64_id (by omega) (by omega)
        simp only [go_sem, ↓reduceIte, Nat.reduceEqDiff, Nat.reduceLeDiff, Nat.reduceAdd, Nat.reduceMul, Nat.reduceSub, Nat.reduceBEq, Nat.reduceGT, Nat.reduceLT, Int.reduceLE, Int.reduceLT, Int.reduceNeg, reduceCtorEq, e2, e8, e9, e10, hcn, c0, c3]
        refine ⟨rfl, ?_⟩
        rw [← hH3]
        simp only [go_sem, ↓reduceIte, Nat.reduceEqDiff, Nat.reduceLeDiff, Nat.reduceAdd, Nat.reduceMul, Nat.reduceSub, Nat.reduceBEq, Nat.reduceGT, Nat.reduceLT, Int.reduceLE, Int.reduceLT, Int.reduceNeg, reduceCtorEq, e2, e8, e9, e10, g3, c0, c3, ew]
        rw [← eD]
        refine RunI.by (append_lit ty22 ty3 rfl (by decide) od3 (ys := [.int .i64 (degA est more i)]) (m := 1) rfl rfl (n := i + 1) (by simp [degN]) (by omega) (by omega) z3) ?_
        rintro d2 H4 ⟨od4, gr4, _⟩
        obtain ⟨f1, f2, f3, f4, f5, f6⟩ := fin ρ d2 H4 od4 gr4
        simp only [go_sem, ↓reduceIte, Nat.reduceEqDiff, Nat.reduceLeDiff, Nat.reduceAdd, Nat.reduceMul, Nat.reduceSub, Nat.reduceBEq, Nat.reduceGT, Nat.reduceLT, Int.reduceLE, Int.reduceLT, Int.reduceNeg, reduceCtorEq, e0, e1, e2, e6, e8, e9, e10]
        rw [w64_id (by omega) (by omega)]
        refine ⟨Hold.mk ⟨i + 1, _, d2, by simp only [go_sem, ↓reduceIte, Nat.reduceEqDiff, Nat.reduceLeDiff, Nat.reduceAdd, Nat.reduceMul, Nat.reduceSub, Nat.reduceBEq, Nat.reduceGT, Nat.reduceLT, Int.reduceLE, Int.reduceLT, Int.reduceNeg, reduceCtorEq, e0], by simp only [go_sem, ↓reduceIte, Nat.reduceEqDiff, Nat.reduceLeDiff, Nat.reduceAdd, Nat.reduceMul, Nat.reduceSub, Nat.reduceBEq, Nat.reduceGT, Nat.reduceLT, Int.reduceLE, Int.reduceLT, Int.reduceNeg, reduceCtorEq, e1], by simp only [go_sem, ↓reduceIte, Nat.reduceEqDiff, Nat.reduceLeDiff, Nat.reduceAdd, Nat.reduceMul, Nat.reduceSub, Nat.reduceBEq, Nat.reduceGT, Nat.reduceLT, Int.reduceLE, Int.reduceLT, Int.reduceNeg, reduceCtorEq, e2], by simp only [go_sem, ↓reduceIte, Nat.reduceEqDiff, Nat.reduceLeDiff, Nat.reduceAdd, Nat.reduceMul, Nat.reduceSub, Nat.reduceBEq, Nat.reduceGT, Nat.reduceLT, Int.reduceLE, Int.reduceLT, Int.reduceNeg, reduceCtorEq, e6], by simp only [go_sem, ↓reduceIte, Nat.reduceEqDiff, Nat.reduceLeDiff, Nat.reduceAdd, Nat.reduceMul, Nat.reduceSub, Nat.reduceBEq, Nat.reduceGT, Nat.reduceLT, Int.reduceLE, Int.reduceLT, Int.reduceNeg, reduceCtorEq, e8], by simp only [go_sem, ↓reduceIte, Nat.reduceEqDiff, Nat.reduceLeDiff, Nat.reduceAdd, Nat.reduceMul, Nat.reduceSub, Nat.reduceBEq, Nat.reduceGT, Nat.reduceLT, Int.reduceLE, Int.reduceLT, Int.reduceNeg, reduceCtorEq], by simp only [go_sem, ↓reduceIte, Nat.reduceEqDiff, Nat.reduceLeDiff, Nat.reduceAdd, Nat.reduceMul, Nat.reduceSub, Nat.reduceBEq, Nat.reduceGT, Nat.reduceLT, Int.reduceLE, Int.reduceLT, Int.reduceNeg, reduceCtorEq]; rfl, by omega, f1, f2, f3, f4, f5, f6⟩, by omega⟩
      · have c3 : ¬ (i : Int) < more.length := by omega
        have eD : degA est more i = estA est i := by unfold degA; rw [if_neg hm]
        simp only [go_sem, ↓reduceIte, Nat.reduceEqDiff, Nat.reduceLeDiff, Nat.reduceAdd, Nat.reduceMul, Nat.reduceSub, Nat.reduceBEq, Nat.reduceGT, Nat.reduceLT, Int.reduceLE, Int.reduceLT, Int.reduceNeg, reduceCtorEq, e2, e8, e9, e10, hcn, c3]
        refine ⟨rfl, ?_⟩
        rw [← hH3, ← eD]
        refine RunI.by (append_lit ty22 ty3 rfl (by decide) od3 (ys := [.int .i64 (degA est more i)]) (m := 1) rfl rfl (n := i + 1) (by simp [degN]) (by omega) (by omega) z3) ?_
        rintro d2 H4 ⟨od4, gr4, _⟩
        obtain ⟨f1, f2, f3, f4, f5, f6⟩ := fin ρ d2 H4 od4 gr4
        simp only [go_sem, ↓reduceIte, Nat.reduceEqDiff, Nat.reduceLeDiff, Nat.reduceAdd, Nat.reduceMul, Nat.reduceSub, Nat.reduceBEq, Nat.reduceGT, Nat.reduceLT, Int.reduceLE, Int.reduceLT, Int.reduceNeg, reduceCtorEq, e0, e1, e2, e6, e8, e9, e10]
        rw [w64_id (by omega) (by omega)]
        refine ⟨Hold.mk ⟨i + 1, _, d2, by simp only [go_sem, ↓reduceIte, Nat.reduceEqDiff, Nat.reduceLeDiff, Nat.reduceAdd, Nat.reduceMul, Nat.reduceSub, Nat.reduceBEq, Nat.reduceGT, Nat.reduceLT, Int.reduceLE, Int.reduceLT, Int.reduceNeg, reduceCtorEq, e0], by simp only [go_sem, ↓reduceIte, Nat.reduceEqDiff, Nat.reduceLeDiff, Nat.reduceAdd, Nat.reduceMul, Nat.reduceSub, Nat.reduceBEq, Nat.reduceGT, Nat.reduceLT, Int.reduceLE, Int.reduceLT, Int.reduceNeg, reduceCtorEq, e1], by simp only [go_sem, ↓reduceIte, Nat.reduceEqDiff, Nat.reduceLeDiff, Nat.reduceAdd, Nat.reduceMul, Nat.reduceSub, Nat.reduceBEq, Nat.reduceGT, Nat.reduceLT, Int.reduceLE, Int.reduceLT, Int.reduceNeg, reduceCtorEq, e2], by simp only [go_sem, ↓reduceIte, Nat.reduceEqDiff, Nat.reduceLeDiff, Nat.reduceAdd, Nat.reduceMul, Nat.reduceSub, Nat.reduceBEq, Nat.reduceGT, Nat.reduceLT, Int.reduceLE, Int.reduceLT, Int.reduceNeg, reduceCtorEq, e6], by simp only [go_sem, ↓reduceIte, Nat.reduceEqDiff, Nat.reduceLeDiff, Nat.reduceAdd, Nat.reduceMul, Nat.reduceSub, Nat.reduceBEq, Nat.reduceGT, Nat.reduceLT, Int.reduceLE, Int.reduceLT, Int.reduceNeg, reduceCtorEq, e8], by simp only [go_sem, ↓reduceIte, Nat.reduceEqDiff, Nat.reduceLeDiff, Nat.reduceAdd, Nat.reduceMul, Nat.reduceSub, Nat.reduceBEq, Nat.reduceGT, Nat.reduceLT, Int.reduceLE, Int.reduceLT, Int.reduceNeg, reduceCtorEq], by simp only [go_sem, ↓reduceIte, Nat.reduceEqDiff, Nat.reduceLeDiff, Nat.reduceAdd, Nat.reduceMul, Nat.reduceSub, Nat.reduceBEq, Nat.reduceGT, Nat.reduceLT, Int.reduceLE, Int.reduceLT, Int.reduceNeg, reduceCtorEq]; rfl, by omega, f1, f2, f3, f4, f5, f6⟩, by omega⟩
    · have hi5 : ¬ ((i : Int) < est.length ∧ (i : Int) < 5000) := by unfold fitN at hlt; omega
      have hie : i = fitN est := by omega
      subst hie
      rcases (by omega : ¬ ((fitN est : Int) < est.length) ∨ ((fitN est : Int) < est.length ∧ ¬ ((fitN est : Int) < 5000))) with c1 | ⟨c1, c2⟩
      case' inl => simp only [go_sem, ↓reduceIte, Nat.reduceEqDiff, Nat.reduceLeDiff, Nat.reduceAdd, Nat.reduceMul, Nat.reduceSub, Nat.reduceBEq, Nat.reduceGT, Nat.reduceLT, Int.reduceLE, Int.reduceLT, Int.reduceNeg, reduceCtorEq, c8_L0, e0, e10, c1]
      case' inr => simp only [go_sem, ↓reduceIte, Nat.reduceEqDiff, Nat.reduceLeDiff, Nat.reduceAdd, Nat.reduceMul, Nat.reduceSub, Nat.reduceBEq, Nat.reduceGT, Nat.reduceLT, Int.reduceLE, Int.reduceLT, Int.reduceNeg, reduceCtorEq, c8_L0, e0, e10, c1, c2]
      all_goals
        refine LoopI.by mixed (fun ρ H' => ∃ (j : Nat) (c : Value), ρ 1 = .slice v1 ds.length v2 ∧ ρ 2 = .slice w1 more.length w2 ∧ ρ 6 = .pointer (some ⟨H.size, 0, none⟩) ∧ ρ 8 = .pointer (some ⟨H.size + 1, 0, none⟩) ∧ ρ 9 = d ∧ ρ 12 = .int .i64 j ∧ j ≤ min ds.length 1000 ∧
          H'[H.size]? = some (.cells #[.int .i64 0, .slice none 0 0, .slice none 0 0] 28) ∧ H'[H.size + 1]? = some (.cells #[.int .i64 0, a, c] 28) ∧ V.Own H' (H.size + 2) 3 1 a ((estN est (fitN est)).map (.int .i64)) ∧ V.Own H' (H.size + 2) 4 1 c ((ds.take j).map .bool) ∧ V.Own H' (H.size + 2) 3 1 d ((degN est more (fitN est)).map (.int .i64)) ∧ Ext H H') (fun ρ _ => min ds.length 1000 - (iof (ρ 12)).toNat) ?_ ?_
        · exact ⟨0, .slice none 0 0, by simp only [go_sem, ↓reduceIte, Nat.reduceEqDiff, Nat.reduceLeDiff, Nat.reduceAdd, Nat.reduceMul, Nat.reduceSub, Nat.reduceBEq, Nat.reduceGT, Nat.reduceLT, Int.reduceLE, Int.reduceLT, Int.reduceNeg, reduceCtorEq, e1], by simp only [go_sem, ↓reduceIte, Nat.reduceEqDiff, Nat.reduceLeDiff, Nat.reduceAdd, Nat.reduceMul, Nat.reduceSub, Nat.reduceBEq, Nat.reduceGT, Nat.reduceLT, Int.reduceLE, Int.reduceLT, Int.reduceNeg, reduceCtorEq, e2], by simp only [go_sem, ↓reduceIte, Nat.reduceEqDiff, Nat.reduceLeDiff, Nat.reduceAdd, Nat.reduceMul, Nat.reduceSub, Nat.reduceBEq, Nat.reduceGT, Nat.reduceLT, Int.reduceLE, Int.reduceLT, Int.reduceNeg, reduceCtorEq, e6], by simp only [go_sem, ↓reduceIte, Nat.reduceEqDiff, Nat.reduceLeDiff, Nat.reduceAdd, Nat.reduceMul, Nat.reduceSub, Nat.reduceBEq, Nat.reduceGT, Nat.reduceLT, Int.reduceLE, Int.reduceLT, Int.reduceNeg, reduceCtorEq, e8], by simp only [go_sem, ↓reduceIte, Nat.reduceEqDiff, Nat.reduceLeDiff, Nat.reduceAdd, Nat.reduceMul, Nat.reduceSub, Nat.reduceBEq, Nat.reduceGT, Nat.reduceLT, Int.reduceLE, Int.reduceLT, Int.reduceNeg, reduceCtorEq, e9], by simp only [go_sem, ↓reduceIte, Nat.reduceEqDiff, Nat.reduceLeDiff, Nat.reduceAdd, Nat.reduceMul, Nat.reduceSub, Nat.reduceBEq, Nat.reduceGT, Nat.reduceLT, Int.reduceLE, Int.reduceLT, Int.reduceNeg, reduceCtorEq]; rfl, Nat.zero_le _, k1, k2, oa, Own.nil, od, hx⟩
        clear k1 k2 oa od hx e0 e1 e2 e6 e8 e9 e10
        rintro ρ H' ⟨j, c, e1, e2, e6, e8, e9, e12, hj, k1, k2, oa, oc, od, hx⟩
        by_cases hlt : j < min ds.length 1000
        · have d1 : (j : Int) < ds.length := by omega
          have d2 : (j : Int) < 1000 := by omega
          have d0 : (0 : Int) ≤ j := by omega
          obtain ⟨b, o, rfl⟩ := hv.at (show j < ds.length by omega)
          have g1 := (hv.ext hx).get (show j < ds.length by omega)
          have k22 : hget H' (H.size + 1) 2 = some c := by rw [hget_cells k2]; rfl
          simp only [go_sem, ↓reduceIte, Nat.reduceEqDiff, Nat.reduceLeDiff, Nat.reduceAdd, Nat.reduceMul, Nat.reduceSub, Nat.reduceBEq, Nat.reduceGT, Nat.reduceLT, Int.reduceLE, Int.reduceLT, Int.reduceNeg, reduceCtorEq, ext_push, ext_refl, c8_L1, e1, e8, e12, d0, d1, d2, k22, g1]
          have hsz : H.size + 2 ≤ H'.size := by have := (Array.getElem?_eq_some_iff.1 k2).1; omega
          refine RunI.by (append_lit ty23 ty4 rfl (by decide) oc (ys := [.bool (ds.getD j false)]) (m := 1) rfl rfl (n := j + 1) (by simp; omega) (by omega) (by omega) hsz) ?_
          rintro c2 H2 ⟨oc2, gr, _⟩
          rw [show [Value.bool (ds.getD j false)] = [ds.getD j false].map .bool from rfl, ← List.map_append, ← take_succ_getD (show j < ds.length by omega) false] at oc2
          have nb : ∀ g, blk c = some g → H.size + 2 ≤ g := fun g hg => (oc.blk hg).1
          have q1 : H2[H.size]? = some (.cells #[.int .i64 0, .slice none 0 0, .slice none 0 0] 28) := (gr.but.get _ (by omega) fun e => by have := nb _ e.symm; omega).trans k1
          have q2 : H2[H.size + 1]? = some (.cells #[.int .i64 0, a, c] 28) := (gr.but.get _ (by omega) fun e => by have := nb _ e.symm; omega).trans k2
          have oa2 := oa.byTag oc gr.but (by decide)
          have od2 := od.byTag oc gr.but (by decide)
          have x2 : Ext H H2 := hx.trans ((gr.upto oc hsz).mono (by omega))
          obtain ⟨p2, l2, rfl⟩ := Bls.form (bs := ds.take (j + 1)) oc2.sl
          obtain ⟨H3, hH3⟩ : ∃ H3, H3 = hput H2 (H.size + 1) 2 [.slice p2 (ds.take (j + 1)).length l2] := ⟨_, rfl⟩
          have z2 : H.size + 2 ≤ H2.size := by have := gr.but.size; omega
          have t1 : H3[H.size]? = some (.cells #[.int .i64 0, .slice none 0 0, .slice none 0 0] 28) := by rw [hH3, hput_other _ _ _ _ (by omega)]; exact q1
          have t2 : H3[H.size + 1]? = some (.cells #[.int .i64 0, a, .slice p2 (ds.take (j + 1)).length l2] 28) := by rw [hH3]; exact hput_same q2
          have x3 : Ext H H3 := by rw [hH3]; exact x2.hput (by omega)
          have oa3 := oa2.keep (H' := H3) fun g hg => by rw [hH3]; exact hput_other _ _ _ _ (by have := (oa2.blk hg).1; omega)
          have od3 := od2.keep (H' := H3) fun g hg => by rw [hH3]; exact hput_other _ _ _ _ (by have := (od2.blk hg).1; omega)
          have oc3 := oc2.keep (H' := H3) fun g hg => by rw [hH3]; exact hput_other _ _ _ _ (by have := (oc2.blk hg).1; omega)
          have hcn : hcan H2 (H.size + 1) 2 1 := hcan_of q2 (by simp)
          simp only [go_sem, ↓reduceIte, Nat.reduceEqDiff, Nat.reduceLeDiff, Nat.reduceAdd, Nat.reduceMul, Nat.reduceSub, Nat.reduceBEq, Nat.reduceGT, Nat.reduceLT, Int.reduceLE, Int.reduceLT, Int.reduceNeg, reduceCtorEq, e1, e2, e6, e8, e9, e12, hcn]
          refine ⟨rfl, ?_⟩
          rw [← hH3]
          rw [w64_id (by omega) (by omega)]
          exact ⟨Hold.mk ⟨j + 1, _, by simp only [go_sem, ↓reduceIte, Nat.reduceEqDiff, Nat.reduceLeDiff, Nat.reduceAdd, Nat.reduceMul, Nat.reduceSub, Nat.reduceBEq, Nat.reduceGT, Nat.reduceLT, Int.reduceLE, Int.reduceLT, Int.reduceNeg, reduceCtorEq, e1], by simp only [go_sem, ↓reduceIte, Nat.reduceEqDiff, Nat.reduceLeDiff, Nat.reduceAdd, Nat.reduceMul, Nat.reduceSub, Nat.reduceBEq, Nat.reduceGT, Nat.reduceLT, Int.reduceLE, Int.reduceLT, Int.reduceNeg, reduceCtorEq, e2], by simp only [go_sem, ↓reduceIte, Nat.reduceEqDiff, Nat.reduceLeDiff, Nat.reduceAdd, Nat.reduceMul, Nat.reduceSub, Nat.reduceBEq, Nat.reduceGT, Nat.reduceLT, Int.reduceLE, Int.reduceLT, Int.reduceNeg, reduceCtorEq, e6], by simp only [go_sem, ↓reduceIte, Nat.reduceEqDiff, Nat.reduceLeDiff, Nat.reduceAdd, Nat.reduceMul, Nat.reduceSub, Nat.reduceBEq, Nat.reduceGT, Nat.reduceLT, Int.reduceLE, Int.reduceLT, Int.reduceNeg, reduceCtorEq, e8], by simp only [go_sem, ↓reduceIte, Nat.reduceEqDiff, Nat.reduceLeDiff, Nat.reduceAdd, Nat.reduceMul, Nat.reduceSub, Nat.reduceBEq, Nat.reduceGT, Nat.reduceLT, Int.reduceLE, Int.reduceLT, Int.reduceNeg, reduceCtorEq, e9], by simp only [go_sem, ↓reduceIte, Nat.reduceEqDiff, Nat.reduceLeDiff, Nat.reduceAdd, Nat.reduceMul, Nat.reduceSub, Nat.reduceBEq, Nat.reduceGT, Nat.reduceLT, Int.reduceLE, Int.reduceLT, Int.reduceNeg, reduceCtorEq]; rfl, by omega, t1, t2, oa3, oc3, od3, x3⟩, by omega⟩
        · have hje : j = min ds.length 1000 := by omega
          subst hje
          rcases (by omega : ¬ (((min ds.length 1000 : Nat) : Int) < ds.length) ∨ (((min ds.length 1000 : Nat) : Int) < ds.length ∧ ¬ (((min ds.length 1000 : Nat) : Int) < 1000))) with d1 | ⟨d1, d2⟩
          case' inl => simp only [go_sem, ↓reduceIte, Nat.reduceEqDiff, Nat.reduceLeDiff, Nat.reduceAdd, Nat.reduceMul, Nat.reduceSub, Nat.reduceBEq, Nat.reduceGT, Nat.reduceLT, Int.reduceLE, Int.reduceLT, Int.reduceNeg, reduceCtorEq, c8_L1, e1, e2, e6, e8, e9, e12, d1]
          case' inr => simp only [go_sem, ↓reduceIte, Nat.reduceEqDiff, Nat.reduceLeDiff, Nat.reduceAdd, Nat.reduceMul, Nat.reduceSub, Nat.reduceBEq, Nat.reduceGT, Nat.reduceLT, Int.reduceLE, Int.reduceLT, Int.reduceNeg, reduceCtorEq, c8_L1, e1, e2, e6, e8, e9, e12, d1, d2]
          all_goals
            obtain ⟨p1, l1, rfl⟩ := Ints.form (xs := estN est (fitN est)) (k := .i64) oa.sl
            obtain ⟨p2, l2, rfl⟩ := Bls.form (bs := ds.take (min ds.length 1000)) oc.sl
            obtain ⟨H3, hH3⟩ : ∃ H3, H3 = hput H' (H.size + 1) 0 [.int .i64 more.length] := ⟨_, rfl⟩
            have t1 : H3[H.size]? = some (.cells #[.int .i64 0, .slice none 0 0, .slice none 0 0] 28) := by rw [hH3, hput_other _ _ _ _ (by omega)]; exact k1
            have t2 : H3[H.size + 1]? = some (.cells #[.int .i64 more.length, .slice p1 (estN est (fitN est)).length l1, .slice p2 (ds.take (min ds.length 1000)).length l2] 28) := by rw [hH3]; exact hput_same k2
            have x3 : Ext H H3 := by rw [hH3]; exact hx.hput (by omega)
            have j0 : hget H3 (H.size + 1) 0 = some (.int .i64 more.length) := by rw [hget_cells t2]; rfl
            have j1 : hget H3 (H.size + 1) 1 = some (.slice p1 (estN est (fitN est)).length l1) := by rw [hget_cells t2]; rfl
            have j2 : hget H3 (H.size + 1) 2 = some (.slice p2 (ds.take (min ds.length 1000)).length l2) := by rw [hget_cells t2]; rfl
            refine ⟨rfl, hcan_of k2 (by simp), ?_⟩
            rw [← hH3]
            simp only [go_sem, ↓reduceIte, Nat.reduceEqDiff, Nat.reduceLeDiff, Nat.reduceAdd, Nat.reduceMul, Nat.reduceSub, Nat.reduceBEq, Nat.reduceGT, Nat.reduceLT, Int.reduceLE, Int.reduceLT, Int.reduceNeg, reduceCtorEq, e6, e8, e9, j0, j1, j2]
            refine ⟨rfl, hcan_of t1 (by simp), ?_⟩
            have nH : ∀ g, H.size + 2 ≤ g → g ≠ H.size := fun g hg e => by omega
            have nH1 : ∀ g, H.size + 2 ≤ g → g ≠ H.size + 1 := fun g hg e => by omega
            have oa3 := oa.keep (H' := H3) fun g hg => by rw [hH3]; exact hput_other _ _ _ _ (nH1 g (oa.blk hg).1)
            have od3 := od.keep (H' := H3) fun g hg => by rw [hH3]; exact hput_other _ _ _ _ (nH1 g (od.blk hg).1)
            have oc3 := oc.keep (H' := H3) fun g hg => by rw [hH3]; exact hput_other _ _ _ _ (nH1 g (oc.blk hg).1)
            rw [show ds.take (min ds.length 1000) = ds.take 1000 by rw [List.take_eq_take_iff]; omega] at *
            simp only [loadV, ty28]
            refine ⟨_, hgets_put t1 (by simp) rfl, _, _, _, rfl, (oa3.keep fun g hg => hput_other _ _ _ _ (nH g (oa3.blk hg).1)).mono (by omega), (oc3.keep fun g hg => hput_other _ _ _ _ (nH g (oc3.blk hg).1)).mono (by omega), (od3.keep fun g hg => hput_other _ _ _ _ (nH g (od3.blk hg).1)).mono (by omega), ad, x3.hput (Nat.le_refl _)⟩
end Go.Proofs.YtgigigchjnnonaaGreatDoor
namespace Go.V
open Go
/-! ### Bytes as bits -/
/-! ### Bytes with their sum behind them -/
end Go.V
namespace Go.V
open Go
end Go.V
namespace Go.Proofs.YtgigigchjnnonaaGreatDoor
open Go Go.V
end Go.Proofs.YtgigigchjnnonaaGreatDoor
namespace Go.V
open Go
/-- A slice of its own, away from a file system. -/
structure OwnA (H : Heap) (F : Nat → Prop) (B : Nat) (e : TypeId) (v : Value) (vs : List Value) : Prop where
  own : V.Own H B e 1 v vs
  aw : ∀ g, blk v = some g → ¬ F g
theorem OwnA.keep {X F F' : Nat → Prop} {H H' : Heap} {B : Nat} {e : TypeId} {v : Value} {vs : List Value} (h : OwnA H F B e v vs) (cx : ChX X F F' H H') (hX : ∀ g, blk v = some g → ¬ X g) : OwnA H' F' B e v vs :=
  ⟨h.own.keep fun g hg => cx.get g (h.own.blk hg).2.1 (h.aw g hg) (hX g hg), fun g hg => cx.not (h.own.blk hg).2.1 (h.aw g hg)⟩
theorem OwnA.ext {F : Nat → Prop} {H H' : Heap} {B : Nat} {e : TypeId} {v : Value} {vs : List Value} (h : OwnA H F B e v vs) (x : Ext H H') : OwnA H' F B e v vs := ⟨h.own.ext x, h.aw⟩
/-- A new slice is away from what there was. -/
theorem OwnA.of {F : Nat → Prop} {H H' : Heap} {e : TypeId} {v : Value} {vs : List Value} (h : V.Own H' H.size e 1 v vs) (hF : ∀ g, F g → g < H.size) : OwnA H' F H.size e v vs := ⟨h, fun g hg e => by have := hF g e; have := (h.blk hg).1; omega⟩
end Go.V
namespace Go.Proofs.YtgigigchjnnonaaGreatDoor
open Go Go.V
/-- A file made, and filled at once. -/
structure Added (s : St) (n : Nm) (x : Nat) (b : List Int) (s2 : St) : Prop where
  create : (createS s n x).2 = 0
  pc1 : Peace (createS s n x).1
  ops1 : (createS s n x).1.ops = s.ops + 1
  append : appendS (createS s n x).1 n b = (s2, 0)
  pc : Peace s2
  now : s2.now n = some x
  dat : s2.dat x = b
  held : heldS s2 = heldS s + b.length
  room : s2.room = s.room
  ops : s2.ops = s.ops + 2
  other : ∀ m, m ≠ n → s2.now m = s.now m
  dats : ∀ y, y ≠ x → s2.dat y = s.dat y
  mem : s2.held = s.held ++ [x]
end Go.Proofs.YtgigigchjnnonaaGreatDoor
namespace Go.Proofs.YtgigigchjnnonaaGreatDoor
open Go Go.V
theorem estN_len (est : List Int) (i : Nat) : (estN est i).length = i := by simp [estN]
theorem fitN_le (est : List Int) : fitN est ≤ 5000 ∧ fitN est ≤ est.length := by unfold fitN; omega
/-- What fitting makes may be. -/
theorem fit_may (est : List Int) (ds : List Bool) {gen p : Int} (hg : 1 ≤ gen ∧ gen ≤ 2147483647) (hp : 0 ≤ p ∧ p ≤ 2147483647) : mayC gen p (estN est (fitN est)) (ds.take 1000) = true := by
  refine mayC_iff.2 ⟨hg.1, hg.2, hp.1, hp.2, ?_, ?_, fun x hx => ?_⟩
  · rw [estN_len]; have := fitN_le est; omega
  · simp; omega
  · obtain ⟨j, _, rfl⟩ := List.mem_map.1 hx
    have := estA_rng est j
    omega
end Go.Proofs.YtgigigchjnnonaaGreatDoor
namespace Go.Proofs.YtgigigchjnnonaaGreatDoor
open Go Go.V
/-- What a Publish that has no room finds: its own file under the name t, the others as they were. -/
structure Mid (s s' : St) (t : Nm) (f : Nat) : Prop where
  pc : Peace s'
  now : s'.now t = some f
  other : ∀ k, k ≠ t → s'.now k = s.now k
  last : s'.last = s.last
  dat : ∀ g ∈ s.held, s'.dat g = s.dat g ∧ s'.syn g = s.syn g
structure Left (s s' : St) : Prop where
  pc : Peace s'
  now : s'.now = s.now
  last : s'.last = s.last
  dat : ∀ g ∈ s.held, s'.dat g = s.dat g ∧ s'.syn g = s.syn g
/-- What a Publish that answered OK leaves. -/
structure Pubd (s' : St) (n : Nm) (f : Nat) (hd : List Int) (l : List (List Int)) : Prop where
  pc : Peace s'
  now : s'.now n = some f
  dat : s'.dat f = rowB (fileR hd l)
  last : s'.last = s'.now
end Go.Proofs.YtgigigchjnnonaaGreatDoor
namespace Go.V
open Go
theorem and_one (x : Int) : ibits .and .i64 x 1 = x % 2 := by
  simp only [ibits]
  have e : (BitVec.ofInt IntKind.i64.bits x &&& BitVec.ofInt IntKind.i64.bits 1).toNat = (x % 2).toNat := by
    rw [BitVec.toNat_and]
    have h1 : (BitVec.ofInt IntKind.i64.bits 1).toNat = 2 ^ 1 - 1 := by decide
    rw [h1, Nat.and_two_pow_sub_one_eq_mod]
    have h2 : ((BitVec.ofInt IntKind.i64.bits x).toNat : Int) = x % 18446744073709551616 := by
      rw [BitVec.toNat_ofInt]
      show ((x % ((18446744073709551616 : Nat) : Int)).toNat : Int) = _
      rw [Int.toNat_of_nonneg (by omega)]; rfl
    omega
  rw [e, w64_id (by omega) (by omega)]
  omega
theorem moveD_mem {D : Dir} {x : Nat} {n : Nm} {hs : List Nat} (hD : ∀ m f, D m = some f → f ∈ hs) (hx : x ∈ hs) : ∀ m f, moveD D x n m = some f → f ∈ hs := by
  intro m f h
  unfold moveD at h
  split at h
  · injection h with h; exact h ▸ hx
  · split at h
    · cases h
    · exact hD m f h
end Go.V
namespace Go.Proofs.YtgigigchjnnonaaGreatDoor
open Go Go.V
section
variable {H H' H2 : Heap} {F F' : Nat → Prop} {b mb lb hb lb' hb' : Nat} {pv pv' : Value} {dv : Nat → Value} {s : St}
theorem shr_eq (x : Int) (i : Nat) : ishr .i64 x ((min i 63 : Nat) : Int) = x / 2 ^ (min i 63) := by
  rw [ishr_eq (by omega) (by show ((min i 63 : Nat) : Int) ≤ 64; omega), Int.toNat_natCast]
set_option maxHeartbeats 3200000 in
theorem F52 (h : FsP H F b mb lb hb pv dv s) (ok : Ok s) (hn : s.ops < 1099511627776) (dir : Int) :
    Fun Tryz.prog 52 #[ptrOf b, .int .i64 dir] H (fun r H' => ∃ m, r = .map (some m) ∧ H.size ≤ m ∧ DirH H' m (afterD s.last dir s.pend 0) ∧ Ext H H') := by
  refine fun_of mixed (args := [_, _]) Tryz.func52 Tryz.ntmps52 b52 r52 rfl ?_
  obtain ⟨g0, g1, g2, g3, g4, g5, g6, g7⟩ := h.get
  obtain ⟨l, c, m, hg⟩ := h.hL
  have N := ok.num hn
  simp only [go_sem, ↓reduceIte, Nat.reduceEqDiff, Nat.reduceLeDiff, Nat.reduceAdd, Nat.reduceMul, Nat.reduceSub, Nat.reduceBEq, Nat.reduceGT, Nat.reduceLT, Int.reduceLE, Int.reduceLT, Int.reduceNeg, reduceCtorEq, ptrOf, g2]
  refine FunI.by (F171 m.hb) ?_
  rintro _ _ ⟨rfl, rfl⟩
  have x1 : Ext H (H.push (.map (entsA Value.string l) c)) := Ext.push _
  have d1 : DirH (H.push (.map (entsA Value.string l) c)) H.size s.last := ⟨l, c, ⟨push_new, m.old, m.nb, m.nk⟩, hg⟩
  have h1 := h.ext x1
  generalize H.push (.map (entsA Value.string l) c) = H1 at *
  obtain ⟨_, _, _, r3, _, _, _, _⟩ := h1.get
  obtain ⟨vs, o, pp⟩ := h1.hp
  have hvl : vs.length = s.pend.length := pp.length
  obtain ⟨a, cap, rfl⟩ := h1.pend_form
  simp only [go_sem, ↓reduceIte, Nat.reduceEqDiff, Nat.reduceLeDiff, Nat.reduceAdd, Nat.reduceMul, Nat.reduceSub, Nat.reduceBEq, Nat.reduceGT, Nat.reduceLT, Int.reduceLE, Int.reduceLT, Int.reduceNeg, reduceCtorEq, r3]
  refine LoopI.by mixed (fun ρ H' => ∃ (i : Nat) (D : Dir), ρ 0 = ptrOf b ∧ ρ 1 = .int .i64 dir ∧ ρ 5 = .map (some H.size) ∧ ρ 16 = .slice a s.pend.length cap ∧ ρ 17 = .int .i64 s.pend.length ∧ ρ 18 = .int .i64 i ∧ i ≤ s.pend.length ∧ DirH H' H.size D ∧ (∀ n f, D n = some f → f ∈ s.held) ∧ afterD D dir (s.pend.drop i) i = afterD s.last dir s.pend 0 ∧ Ext H H') (fun ρ _ => s.pend.length - (iof (ρ 18)).toNat) ?_ ?_
  · exact ⟨0, s.last, by simp only [go_sem, ↓reduceIte, Nat.reduceEqDiff, Nat.reduceLeDiff, Nat.reduceAdd, Nat.reduceMul, Nat.reduceSub, Nat.reduceBEq, Nat.reduceGT, Nat.reduceLT, Int.reduceLE, Int.reduceLT, Int.reduceNeg, reduceCtorEq, ptrOf], by simp only [go_sem, ↓reduceIte, Nat.reduceEqDiff, Nat.reduceLeDiff, Nat.reduceAdd, Nat.reduceMul, Nat.reduceSub, Nat.reduceBEq, Nat.reduceGT, Nat.reduceLT, Int.reduceLE, Int.reduceLT, Int.reduceNeg, reduceCtorEq], by simp only [go_sem, ↓reduceIte, Nat.reduceEqDiff, Nat.reduceLeDiff, Nat.reduceAdd, Nat.reduceMul, Nat.reduceSub, Nat.reduceBEq, Nat.reduceGT, Nat.reduceLT, Int.reduceLE, Int.reduceLT, Int.reduceNeg, reduceCtorEq], by simp only [go_sem, ↓reduceIte, Nat.reduceEqDiff, Nat.reduceLeDiff, Nat.reduceAdd, Nat.reduceMul, Nat.reduceSub, Nat.reduceBEq, Nat.reduceGT, Nat.reduceLT, Int.reduceLE, Int.reduceLT, Int.reduceNeg, reduceCtorEq], by simp only [go_sem, ↓reduceIte, Nat.reduceEqDiff, Nat.reduceLeDiff, Nat.reduceAdd, Nat.reduceMul, Nat.reduceSub, Nat.reduceBEq, Nat.reduceGT, Nat.reduceLT, Int.reduceLE, Int.reduceLT, Int.reduceNeg, reduceCtorEq], by simp only [go_sem, ↓reduceIte, Nat.reduceEqDiff, Nat.reduceLeDiff, Nat.reduceAdd, Nat.reduceMul, Nat.reduceSub, Nat.reduceBEq, Nat.reduceGT, Nat.reduceLT, Int.reduceLE, Int.reduceLT, Int.reduceNeg, reduceCtorEq]; rfl, by omega, d1, ok.lastH, rfl, x1⟩
  clear d1 h1 r3 o pp hvl x1
  rintro ρ H2 ⟨i, D, e0, e1, e5, e16, e17, e18, hi, d2, hD, haft, x2⟩
  have h2 := h.ext x2
  obtain ⟨vs, o, pp⟩ := h2.hp
  have hvl : vs.length = s.pend.length := pp.length
  by_cases hlt : i < s.pend.length
  · have z0 : (0 : Int) ≤ i := by omega
    have z1 : (i : Int) < s.pend.length := by omega
    have := N.pl
    have := N.ops
    have w1 : IntKind.i64.wrap ((i : Int) + 1) = ((i + 1 : Nat) : Int) := by rw [w64_id (by omega) (by omega)]; omega
    obtain ⟨pp1, hpp1⟩ : ∃ p, s.pend[i]? = some p := ⟨_, List.getElem?_eq_getElem hlt⟩
    obtain ⟨v, hv, c1, c2, rfl, f1, f2, hc1, hc2⟩ := pp.get hpp1
    have hsl := o.sl
    obtain ⟨g, og, rfl⟩ := Sl.at hsl (by omega)
    have hget : hget H2 g (og + i) = some (.func (.func 269) #[] #[ptrOf c1, ptrOf c2]) := by rw [Sl.get hsl (by omega)]; exact hv
    have emin : (if (63 : Int) < (i : Int) then (63 : Int) else (i : Int)) = ((min i 63 : Nat) : Int) := by split <;> omega
    have zmin : (0 : Int) ≤ ((min i 63 : Nat) : Int) := by omega
    have hdrop : s.pend.drop i = pp1 :: s.pend.drop (i + 1) := by
      rw [List.drop_eq_getElem_cons hlt]
      rw [List.getElem?_eq_getElem hlt] at hpp1
      injection hpp1 with hpp1
      rw [hpp1]
    rw [hdrop] at haft
    have hmem : pp1 ∈ s.pend := List.mem_of_getElem? hpp1
    by_cases hbit : (dir / 2 ^ (min i 63)) % 2 = 0
    · have hb0 : bitI dir i = false := by unfold bitI; simp [hbit]
      rw [show afterD D dir (pp1 :: s.pend.drop (i + 1)) i = afterD (if bitI dir i then moveD D pp1.1 pp1.2 else D) dir (s.pend.drop (i + 1)) (i + 1) from rfl, hb0] at haft
      simp only [go_sem, ↓reduceIte, Nat.reduceEqDiff, Nat.reduceLeDiff, Nat.reduceAdd, Nat.reduceMul, Nat.reduceSub, Nat.reduceBEq, Nat.reduceGT, Nat.reduceLT, Int.reduceLE, Int.reduceLT, Int.reduceNeg, reduceCtorEq, c52_L0, e0, e1, e5, e16, e17, e18, z0, z1, Int.toNat_natCast, hget, emin, zmin, shr_eq, and_one, hbit, w1]
      exact ⟨Hold.mk ⟨i + 1, D, by simp only [go_sem, ↓reduceIte, Nat.reduceEqDiff, Nat.reduceLeDiff, Nat.reduceAdd, Nat.reduceMul, Nat.reduceSub, Nat.reduceBEq, Nat.reduceGT, Nat.reduceLT, Int.reduceLE, Int.reduceLT, Int.reduceNeg, reduceCtorEq, e0], by simp only [go_sem, ↓reduceIte, Nat.reduceEqDiff, Nat.reduceLeDiff, Nat.reduceAdd, Nat.reduceMul, Nat.reduceSub, Nat.reduceBEq, Nat.reduceGT, Nat.reduceLT, Int.reduceLE, Int.reduceLT, Int.reduceNeg, reduceCtorEq, e1], by simp only [go_sem, ↓reduceIte, Nat.reduceEqDiff, Nat.reduceLeDiff, Nat.reduceAdd, Nat.reduceMul, Nat.reduceSub, Nat.reduceBEq, Nat.reduceGT, Nat.reduceLT, Int.reduceLE, Int.reduceLT, Int.reduceNeg, reduceCtorEq, e5], by simp only [go_sem, ↓reduceIte, Nat.reduceEqDiff, Nat.reduceLeDiff, Nat.reduceAdd, Nat.reduceMul, Nat.reduceSub, Nat.reduceBEq, Nat.reduceGT, Nat.reduceLT, Int.reduceLE, Int.reduceLT, Int.reduceNeg, reduceCtorEq, e16], by simp only [go_sem, ↓reduceIte, Nat.reduceEqDiff, Nat.reduceLeDiff, Nat.reduceAdd, Nat.reduceMul, Nat.reduceSub, Nat.reduceBEq, Nat.reduceGT, Nat.reduceLT, Int.reduceLE, Int.reduceLT, Int.reduceNeg, reduceCtorEq, e17], by simp only [go_sem, ↓reduceIte, Nat.reduceEqDiff, Nat.reduceLeDiff, Nat.reduceAdd, Nat.reduceMul, Nat.reduceSub, Nat.reduceBEq, Nat.reduceGT, Nat.reduceLT, Int.reduceLE, Int.reduceLT, Int.reduceNeg, reduceCtorEq], by omega, d2, hD, by simpa using haft, x2⟩, by omega⟩
    · have hb1 : bitI dir i = true := by unfold bitI; simp [hbit]
      rw [show afterD D dir (pp1 :: s.pend.drop (i + 1)) i = afterD (if bitI dir i then moveD D pp1.1 pp1.2 else D) dir (s.pend.drop (i + 1)) (i + 1) from rfl, hb1, if_pos rfl] at haft
      simp only [go_sem, ↓reduceIte, Nat.reduceEqDiff, Nat.reduceLeDiff, Nat.reduceAdd, Nat.reduceMul, Nat.reduceSub, Nat.reduceBEq, Nat.reduceGT, Nat.reduceLT, Int.reduceLE, Int.reduceLT, Int.reduceNeg, reduceCtorEq, c52_L0, e0, e1, e5, e16, e17, e18, z0, z1, Int.toNat_natCast, hget, emin, zmin, shr_eq, and_one, hbit, w1]
      refine FunI.by (F269 (c1 := c1) (c2 := c2) d2 hc1 hc2 (h2.stands (ok.pendH _ hmem)) (fun m f hm => h2.stands (hD m f hm))) ?_
      rintro r3 H3 ⟨d3, s3, k3⟩
      simp only [go_sem, ↓reduceIte, Nat.reduceEqDiff, Nat.reduceLeDiff, Nat.reduceAdd, Nat.reduceMul, Nat.reduceSub, Nat.reduceBEq, Nat.reduceGT, Nat.reduceLT, Int.reduceLE, Int.reduceLT, Int.reduceNeg, reduceCtorEq, e18, w1]
      refine ⟨Hold.mk ⟨i + 1, _, by simp only [go_sem, ↓reduceIte, Nat.reduceEqDiff, Nat.reduceLeDiff, Nat.reduceAdd, Nat.reduceMul, Nat.reduceSub, Nat.reduceBEq, Nat.reduceGT, Nat.reduceLT, Int.reduceLE, Int.reduceLT, Int.reduceNeg, reduceCtorEq, e0], by simp only [go_sem, ↓reduceIte, Nat.reduceEqDiff, Nat.reduceLeDiff, Nat.reduceAdd, Nat.reduceMul, Nat.reduceSub, Nat.reduceBEq, Nat.reduceGT, Nat.reduceLT, Int.reduceLE, Int.reduceLT, Int.reduceNeg, reduceCtorEq, e1], by simp only [go_sem, ↓reduceIte, Nat.reduceEqDiff, Nat.reduceLeDiff, Nat.reduceAdd, Nat.reduceMul, Nat.reduceSub, Nat.reduceBEq, Nat.reduceGT, Nat.reduceLT, Int.reduceLE, Int.reduceLT, Int.reduceNeg, reduceCtorEq, e5], by simp only [go_sem, ↓reduceIte, Nat.reduceEqDiff, Nat.reduceLeDiff, Nat.reduceAdd, Nat.reduceMul, Nat.reduceSub, Nat.reduceBEq, Nat.reduceGT, Nat.reduceLT, Int.reduceLE, Int.reduceLT, Int.reduceNeg, reduceCtorEq, e16], by simp only [go_sem, ↓reduceIte, Nat.reduceEqDiff, Nat.reduceLeDiff, Nat.reduceAdd, Nat.reduceMul, Nat.reduceSub, Nat.reduceBEq, Nat.reduceGT, Nat.reduceLT, Int.reduceLE, Int.reduceLT, Int.reduceNeg, reduceCtorEq, e17], by simp only [go_sem, ↓reduceIte, Nat.reduceEqDiff, Nat.reduceLeDiff, Nat.reduceAdd, Nat.reduceMul, Nat.reduceSub, Nat.reduceBEq, Nat.reduceGT, Nat.reduceLT, Int.reduceLE, Int.reduceLT, Int.reduceNeg, reduceCtorEq], by omega, d3, moveD_mem hD (ok.pendH _ hmem), haft, x2.trans ⟨?_, ?_⟩⟩, by omega⟩
      · have := x2.size; omega
      · intro g hg; exact k3 g (by have := x2.size; omega) (by omega)
  · have hie : i = s.pend.length := by omega
    have z1 : ¬ (i : Int) < s.pend.length := by omega
    rw [hie, List.drop_length] at haft
    simp only [go_sem, ↓reduceIte, Nat.reduceEqDiff, Nat.reduceLeDiff, Nat.reduceAdd, Nat.reduceMul, Nat.reduceSub, Nat.reduceBEq, Nat.reduceGT, Nat.reduceLT, Int.reduceLE, Int.reduceLT, Int.reduceNeg, reduceCtorEq, c52_L0, e5, e17, e18, z1]
    exact ⟨_, rfl, Nat.le_refl _, by rw [← haft]; exact d2, x2⟩
end
end Go.Proofs.YtgigigchjnnonaaGreatDoor
namespace Go.V
open Go
theorem nodup_sub {α : Type} [BEq α] [LawfulBEq α] : ∀ (l r : List α), l.Nodup → (∀ x ∈ l, x ∈ r) → l.length ≤ r.length
  | [], _, _, _ => Nat.zero_le _
  | x :: l, r, hn, hs => by
    have hx := hs x List.mem_cons_self
    have ih := nodup_sub l (r.erase x) (List.nodup_cons.1 hn).2 fun y hy => by
      refine (List.mem_erase_of_ne fun e => ?_).2 (hs y (List.mem_cons_of_mem _ hy))
      subst e; exact (List.nodup_cons.1 hn).1 hy
    rw [List.length_erase_of_mem hx] at ih
    have : 0 < r.length := List.length_pos_of_mem hx
    simp only [List.length_cons]
    omega
def ofL (x : List UInt8) : Nm := ⟨x.toArray⟩
theorem ofL_toL (n : Nm) : ofL n.data.toList = n := by cases n; simp [ofL]
theorem toL_ofL (x : List UInt8) : (ofL x).data.toList = x := by simp [ofL]
theorem lt_of_leB {a b : List UInt8} (h : a ≤ b) (hne : a ≠ b) : a < b := by
  by_cases h1 : a < b
  · exact h1
  · exact absurd (List.le_antisymm h (List.not_lt.1 h1)) hne
end Go.V
namespace Go.Proofs.YtgigigchjnnonaaGreatDoor
open Go Go.V Go.Proofs Go.Sort
theorem F54 (m : Nat) (H : Heap) : Fun Tryz.prog 54 #[.map (some m)] H (fun r H' => r = .func (.func 174) #[] #[ptrOf H.size] ∧ H' = H.push (.cells #[.map (some m)] 85)) := by
  intro w hw
  subst hw
  refine (show Calls Tryz.prog 54 #[.map (some m)] w _ from callsIn_wide.1 (AnyZ.keys_in Tryz.zKeys Fence.wide 6 trivial rfl (some m) w)).mono ?_
  rintro e w' ⟨rfl, rfl⟩
  exact ⟨_, rfl, ⟨rfl, rfl, rfl, trivial⟩, rfl, rfl⟩
theorem sorts_wide (m : Nat) : AnyZ.SortsIn Tryz.prog Tryz.zSorted_ren Fence.wide m :=
  ⟨fun blk off cap ss W hH hblk hsz => callsIn_wide.2 (AnyM.slices_Sort_string Tryz.mSort blk off cap ss W hH hblk hsz), fun p cap W => callsIn_wide.2 (AnyM.slices_Sort_string_none Tryz.mSort p cap W)⟩
def RR : Value → Option (DataW Unit × List MemPlace) := fun _ => some (.lit (.bool true), [])
theorem dir_owns {w : World} {m c : Nat} {l : List (Ent Nm)} (h : MapH Value.string w.heap m l c) (h64 : ∀ e ∈ l, e.key.size ≤ 64) (hl : l.length ≤ maxLen) :
    ∃ D0 : DataW Unit, w.ownsMap Tryz.prog 9 RR m l.length D0 ∧ Maps.size D0 = l.length ∧ (strKeys D0).Perm (l.map fun e => e.key.data.toList) := by
  have hk : ∀ e ∈ l, Go.WideElems.rg Tryz.prog 9 RR (ent Value.string e) = (.string e.key.data.toList, .lit (.bool true)) := fun e he => by
    refine Go.WideElems.rg_of ?_
    exact Go.WideElems.rd_mk (yv := (.lit (.bool true), [])) (Go.WideMaps.keyOf_string_mk Tryz.underlying9 (by have := h64 e he; simp only [maxLen]; omega)) rfl
  have e1 : (entsA Value.string l).toList.map (Go.WideElems.rg Tryz.prog 9 RR) = l.map fun e => ((.string e.key.data.toList, .lit (.bool true)) : Lit × DataW Unit) := by
    simp only [entsA, List.map_map]
    exact List.map_congr_left fun e he => hk e he
  refine ⟨_, ⟨entsA Value.string l, c, h.hb, ⟨by simp [entsA]; exact hl, ⟨fun x hx => ?_, ?_, ?_⟩, fun x hx => ?_⟩, by simp [entsA], rfl⟩, ?_, ?_⟩
  · simp only [entsA, List.mem_map] at hx
    obtain ⟨e, he, rfl⟩ := hx
    exact h.old e he
  · have : (entsA Value.string l).toList.map (·.born) = l.map (·.born) := by simp [entsA, ent, Function.comp_def]
    rw [this]; exact h.nb
  · have : (entsA Value.string l).toList.map (·.key) = (l.map (·.key)).map Value.string := ents_keys l
    rw [this]
    exact List.pairwise_map.2 (h.nk.imp fun hne e => hne (by injection e))
  · simp only [entsA, List.mem_map] at hx
    obtain ⟨e, he, rfl⟩ := hx
    exact ⟨_, Go.WideElems.rd_mk (yv := (.lit (.bool true), [])) (Go.WideMaps.keyOf_string_mk Tryz.underlying9 (by have := h64 e he; simp only [maxLen]; omega)) rfl⟩
  · rw [e1, Maps.size_eq, (Go.WideShapes.sorted_perm _).length_eq, List.length_map]
  · rw [e1]
    refine ((Go.WideShapes.sorted_perm _).map _).trans ?_
    rw [List.map_map]
    exact List.Perm.refl _
set_option maxHeartbeats 1600000 in
theorem F53 {H : Heap} {bx m : Nat} {D : Dir} {hs : List Nat} (hbx : H[bx]? = some (.cells #[.map (some m)] 85)) (hd : DirH H m D) (hN : ∀ n f, D n = some f → isNm n = true) (hI : ∀ n m f, D n = some f → D m = some f → n = m) (hD : ∀ n f, D n = some f → f ∈ hs) (hl : hs.length ≤ 1099511627776) :
    Fun Tryz.prog 53 #[.func (.func 174) #[] #[ptrOf bx]] H (fun r H' => ∃ ns, IsNames D ns ∧ V.Own H' H.size 9 1 r (ns.map .string) ∧ Ext H H') := by
  intro w hw
  subst hw
  obtain ⟨l, c, mm, hg⟩ := hd
  have hv := DirH.vals mm hg
  have hlen : l.length ≤ hs.length := by
    have h1 : ∀ e ∈ l, D e.key ≠ none := fun e he => by obtain ⟨x, hx, _⟩ := hv e he; rw [hx]; simp
    have := nodup_sub (l.map fun e => (D e.key).getD 0) hs (by
      rw [List.Nodup, List.pairwise_map]
      have hn := mm.nk
      rw [List.Nodup, List.pairwise_map] at hn
      refine hn.imp_of_mem fun {a b} ha hb hne e => hne ?_
      obtain ⟨x, hx, _⟩ := hv a ha
      obtain ⟨y, hy, _⟩ := hv b hb
      rw [hx, hy] at e
      simp only [Option.getD_some] at e
      subst e
      exact hI _ _ _ hx hy) (fun x hx => by
      obtain ⟨e, he, rfl⟩ := List.mem_map.1 hx
      obtain ⟨x, hx, _⟩ := hv e he
      rw [hx]; exact hD _ _ hx)
    simpa using this
  have h64 : ∀ e ∈ l, e.key.size ≤ 64 := fun e he => by
    obtain ⟨x, hx, _⟩ := hv e he
    have := hN _ _ hx
    unfold isNm at this
    simp only [Bool.and_eq_true, decide_eq_true_eq] at this
    exact this.1.2
  obtain ⟨D0, hown, hsz, hperm⟩ := dir_owns mm h64 (by simp only [maxLen]; omega)
  have hseq : SeqGives Fence.wide 3 Tryz.prog 174 #[ptrOf bx] encStr (fun ss => ss.Perm (strKeys D0)) (Maps.size D0) w :=
    AnyZ.keys_gives Tryz.zKeys1 Fence.wide 3 trivial rfl (by decide) bx m l.length D0 w (Array.getElem?_eq_some_iff.1 hbx).1 (by simp [World.cell?, hbx]) hown
  refine (show Calls Tryz.prog 53 #[.func (.func 174) #[] #[ptrOf bx]] w _ from callsIn_wide.1 (AnyZ.sorted_in Tryz.zSorted Fence.wide 6 trivial trivial trivial trivial rfl (by decide) (sorts_wide _) (fun _ _ => rfl) 174 #[ptrOf bx] trivial (fun _ _ => rfl) _ (Maps.size D0) (by rw [hsz]; simp only [maxLen]; omega) (by rw [hsz]; omega) w hseq)).mono ?_
  rintro e w' ⟨v, ss, rfl, hss, hrow, hnil, hbel⟩
  have hss2 : ss.Perm (l.map fun e => e.key.data.toList) := hss.trans hperm
  have hnd : ss.Nodup := by
    refine hss2.nodup_iff.2 ?_
    rw [List.Nodup, List.pairwise_map]
    have hn := mm.nk
    rw [List.Nodup, List.pairwise_map] at hn
    exact hn.imp fun hne e => hne ((ofL_toL _).symm.trans ((congrArg ofL e).trans (ofL_toL _)))
  have hms : (ss.mergeSort fun x y => decide (x ≤ y)).Perm ss := List.mergeSort_perm ss _
  have hpw := List.pairwise_mergeSort (le := leB) (fun a b c h1 h2 => by simp only [leB, decide_eq_true_eq] at *; exact List.le_trans h1 h2) (fun a b => by simp only [leB, Bool.or_eq_true, decide_eq_true_eq]; exact List.le_total a b) ss
  have hnd2 : (ss.mergeSort fun x y => decide (x ≤ y)).Nodup := hms.nodup_iff.2 hnd
  refine ⟨v, rfl, ⟨hbel.os, hbel.tape, hbel.output, trivial⟩, (ss.mergeSort fun x y => decide (x ≤ y)).map ofL, ⟨?_, fun n => ?_⟩, ?_, ⟨hbel.size, hbel.block⟩⟩
  · rw [List.pairwise_map]
    refine (hpw.and hnd2).imp fun {a b} h => ?_
    rw [toL_ofL, toL_ofL]
    exact lt_of_leB (by simpa [leB] using h.1) h.2
  · rw [List.mem_map]
    have hin : n ∈ l.map (·.key) ↔ D n ≠ none := by
      have := getM_none (l := l) (n := n)
      rw [hg, Option.map_eq_none_iff] at this
      constructor
      · intro h1 h2
        rw [h2] at this
        exact this.1 rfl h1
      · intro h1
        cases hx : D n with
        | none => exact absurd hx h1
        | some x =>
          have h2 : getM l n = some (ptrOf x) := by rw [hg, hx]; rfl
          obtain ⟨e, he, hk, _⟩ := (getM_mem mm.nk).1 h2
          exact List.mem_map.2 ⟨e, he, hk⟩
    rw [← hin]
    constructor
    · rintro ⟨x, hx, rfl⟩
      obtain ⟨e, he, rfl⟩ := List.mem_map.1 (hss2.mem_iff.1 (hms.mem_iff.1 hx))
      rw [ofL_toL]
      exact List.mem_map.2 ⟨e, he, rfl⟩
    · intro hn
      obtain ⟨e, he, rfl⟩ := List.mem_map.1 hn
      exact ⟨_, hms.mem_iff.2 (hss2.mem_iff.2 (List.mem_map.2 ⟨e, he, rfl⟩)), ofL_toL _⟩
  · rw [List.map_map]
    have e0 : (Value.string ∘ ofL) = encStr := rfl
    rw [e0]
    rcases hrow.2 with ⟨rfl, hz⟩ | ⟨g, cap, cur, rfl, h1, h2, h3, h4, h5, h6⟩
    · refine .inl ⟨rfl, ?_⟩
      have : ss = [] := List.eq_nil_of_length_eq_zero hz
      subst this; simp
    · exact .inr ⟨g, ss.length, cap, cur, rfl, h1, h2, h3, h4, h5, by rw [← hrow.1], h6⟩
end Go.Proofs.YtgigigchjnnonaaGreatDoor
