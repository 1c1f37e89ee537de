/- The law CkptSpoilt, over heaps. -/
import Derived.Test.YtgigigchjnnonaaDoorVCkF
import Derived.Test.YtgigigchjnnonaaDoorVRot
import Derived.Test.YtgigigchjnnonaaDoorVCodeL
set_option linter.unusedSimpArgs false
set_option linter.unusedVariables false
set_option maxRecDepth 20000
namespace Go.Proofs.YtgigigchjnnonaaDoor
open Go Go.V
-- 4: pith/pithlaw18.CkptSpoilt
-- 5: pith/pithlaw18.first
-- 6: pith/fs.New
-- 7: pith/pithlaw18.fitting
-- 8: pith/ckpt.Save
-- 10: pith/ckpt.Load
-- 18: pith/files.Load
-- 13: (*pith/fs.FS).Size
-- 14: (*pith/fs.FS).Read
-- 15: (*pith/fs.FS).Create
-- 16: (*pith/fs.FS).Append
-- 17: (*pith/fs.FS).Rot
-- 12: pith/pithlaw18.num
-- 22: []int
-- 23: []bool
-- 3: int
-- 4: bool
-- 5: uint8
-- 28: pith/api.Check
set_option maxHeartbeats 12800000 in
theorem F4 (u : Value) (est : List Int) (v : Value) (ds : List Bool) (at' mask : Int) (H : Heap) (hu : Ints H 3 .i64 u est) (hv : Bls H 4 v ds) (hat : -9223372036854775808 ≤ at' ∧ at' < 9223372036854775808) (hma : 0 ≤ mask ∧ mask < 4294967296) (ht : CrcTab H) (tab : Tab H) :
    Fun Tryd.prog 4 #[u, v, .int .i64 at', .int .u32 mask] H (fun r H' => r = .bool true ∧ Ext H H') := by
  obtain ⟨u1, u2, rfl⟩ := hu.form
  obtain ⟨v1, v2, rfl⟩ := hv.form
  refine fun_of mixed (args := [_, _, _, _]) Tryd.func4 Tryd.ntmps4 b4 r4 rfl ?_
  simp only [go_sem, ↓reduceIte, Nat.reduceEqDiff, Nat.reduceLeDiff, Nat.reduceAdd, Nat.reduceMul, Nat.reduceSub, Nat.reduceBEq, Nat.reduceGT, Nat.reduceLT, Int.reduceLE, Int.reduceLT, Int.reduceNeg, reduceCtorEq]
  refine FunI.by (F5 H tab) ?_
  rintro _ H1 ⟨rfl, x1⟩
  simp only [go_sem, ↓reduceIte, Nat.reduceEqDiff, Nat.reduceLeDiff, Nat.reduceAdd, Nat.reduceMul, Nat.reduceSub, Nat.reduceBEq, Nat.reduceGT, Nat.reduceLT, Int.reduceLE, Int.reduceLT, Int.reduceNeg, reduceCtorEq]
  refine FunI.by (F6 1048576 H1 trivial) ?_
  rintro _ HA ⟨xA, h⟩
  rw [if_neg (by omega)] at h
  obtain ⟨b, F, rfl, hA, nA⟩ := h
  simp only [go_sem, ↓reduceIte, Nat.reduceEqDiff, Nat.reduceLeDiff, Nat.reduceAdd, Nat.reduceMul, Nat.reduceSub, Nat.reduceBEq, Nat.reduceGT, Nat.reduceLT, Int.reduceLE, Int.reduceLT, Int.reduceNeg, reduceCtorEq, ptrOf]
  refine FunI.by (F6 1048576 HA trivial) ?_
  rintro _ H2 ⟨xB, h⟩
  rw [if_neg (by omega)] at h
  obtain ⟨cb, G, rfl, g2, nB⟩ := h
  have x0A : Ext H HA := Upto.ext x1 x1.size xA
  have x12 : Ext H H2 := Upto.ext x0A x0A.size xB
  have hs1 := x1.size
  have hsA := xA.size
  have hsB := xB.size
  have h2 := hA.ext xB
  have lA : ∀ g, F g → g < HA.size := fun g hg => FsH.lt hA hg
  have nF : ∀ g, F g → H.size ≤ g := fun g hg => Nat.le_trans hs1 (nA g hg)
  have lF : ∀ g, F g → g < H2.size := fun g hg => Nat.lt_of_lt_of_le (lA g hg) hsB
  have nG : ∀ g, G g → H.size ≤ g := fun g hg => by have := nB g hg; omega
  have lG : ∀ g, G g → g < H2.size := fun g hg => FsH.lt g2 hg
  have dGF : ∀ g, G g → ¬ F g := fun g hg e => by have := lA g e; have := nB g hg; omega
  obtain ⟨more, hmore⟩ : ∃ m : List Int, m = [] := ⟨_, rfl⟩
  have hml : more.length = 0 := by rw [hmore]; rfl
  simp only [go_sem, ↓reduceIte, Nat.reduceEqDiff, Nat.reduceLeDiff, Nat.reduceAdd, Nat.reduceMul, Nat.reduceSub, Nat.reduceBEq, Nat.reduceGT, Nat.reduceLT, Int.reduceLE, Int.reduceLT, Int.reduceNeg, reduceCtorEq, ptrOf]
  refine FunI.by (F7 _ _ _ est more ds H2 (hu.ext x12) (hv.ext x12) (by rw [hmore]; exact Ints.nil)) ?_
  rintro _ H3 ⟨a, c, d, rfl, oa, oc, od, had, x3⟩
  have hs3 := x3.size
  have n5 := fitN_le est
  have eL := estN_len est (fitN est)
  have gL := degN_len est more (fitN est)
  obtain ⟨xs, hxs⟩ : ∃ z, z = estN est (fitN est) := ⟨_, rfl⟩
  obtain ⟨deg, hdeg⟩ : ∃ z, z = degN est more (fitN est) := ⟨_, rfl⟩
  obtain ⟨es, hes⟩ : ∃ z, z = ds.take 1000 := ⟨_, rfl⟩
  have hle : es.length ≤ 1000 := by rw [hes]; simp; omega
  have hm : mayC 1 more.length xs es = true := by rw [hxs, hes]; exact fit_may est ds (by omega) (by omega)
  rw [← hxs] at oa eL
  rw [← hdeg] at od gL
  rw [← hes] at oc
  obtain ⟨a1, a2, rfl⟩ := Ints.form (xs := xs) (k := .i64) oa.sl
  obtain ⟨d1, d2, rfl⟩ := Ints.form (xs := deg) (k := .i64) od.sl
  obtain ⟨c1, c2, rfl⟩ := Bls.form (bs := es) oc.sl
  simp only [go_sem, ↓reduceIte, Nat.reduceEqDiff, Nat.reduceLeDiff, Nat.reduceAdd, Nat.reduceMul, Nat.reduceSub, Nat.reduceBEq, Nat.reduceGT, Nat.reduceLT, Int.reduceLE, Int.reduceLT, Int.reduceNeg, reduceCtorEq, ptrOf, hput_push3, hcan_push, List.all_cons, List.all_nil, Value.oneCell']
  obtain ⟨H4, hH4⟩ : ∃ H4, H4 = H3.push (.cells #[.int .i64 more.length, .slice a1 xs.length a2, .slice c1 es.length c2] 28) := ⟨_, rfl⟩
  have x4 : Ext H3 H4 := by rw [hH4]; exact Ext.push _
  have k4 : H4[H3.size]? = some (.cells #[.int .i64 more.length, .slice a1 xs.length a2, .slice c1 es.length c2] 28) := by rw [hH4]; exact push_new
  have s4 : H4.size = H3.size + 1 := by rw [hH4]; simp
  rw [← hH4]
  have x24 : Ext H2 H4 := x3.trans (x4.mono x3.size)
  have N4 : Newly H H4 F := ⟨x12.trans (x24.mono (by omega)), nF⟩
  have h4 := h2.ext x24
  have g4 := g2.ext x24
  have oa4 := oa.ext x4
  have oc4 := oc.ext x4
  have od4 := od.ext x4
  have p0 : Peace (freshS 1048576) := Peace.fresh (by omega)
  obtain ⟨f4, t4⟩ := N4.stg0 ht
  have en : nameS 1 = nmK 49 := nameS_d (by omega)
  have nm1 : isNm (nmK 49) = true := by decide +kernel
  have tn1 : isNm (tn (nmK 49)) = true := by decide +kernel
  have ne1 : tn (nmK 49) ≠ nmK 49 := by decide +kernel
  refine FunI.by (F8 _ 1 more.length xs es H4 h4 p0.ok (by show (0 : Int) < _; decide) f4 t4 (tab.ext N4.1) ⟨_, _, rfl, oa4.sl, oc4.sl⟩ hm (by omega)) ?_
  rintro _ H5 ⟨f, F5, hf, rfl, h5, cx5⟩
  rw [en] at h5 ⊢
  have cf := chk_file hm (by omega : xs.length ≤ 5000)
  have hh := head_len 1 more.length xs es
  have cl := chk_len (ds := es) (show xs.length ≤ 5000 by omega)
  have po := pub_power p0.ok p0.on nm1 tn1 rfl hf (hd := chkHead 1 more.length xs es) (l := chkData xs es) (by omega) (head_wf _ _ _ _) (chk_byt hm) (by rw [held_fresh]; show _ ≤ (1048576 : Int); omega)
  have pops := pub_ops (freshS 1048576) (nmK 49) (chkHead 1 more.length xs es) (chkData xs es) f
  have e0 : (freshS 1048576).ops = 0 := rfl
  obtain ⟨r, hr⟩ : ∃ r, r = pubS (freshS 1048576) (nmK 49) (chkHead 1 more.length xs es) (chkData xs es) f := ⟨_, rfl⟩
  rw [← hr] at po h5 pops ⊢
  obtain ⟨s, e⟩ := r
  have he : e = 0 := by
    rcases (out_ok po).2 with e | ⟨e, _⟩
    · exact e
    · exact absurd e (by decide)
  subst he
  have hfin : Fin (freshS 1048576) s (tn (nmK 49)) (nmK 49) f (rowB (fileR (chkHead 1 more.length xs es) (chkData xs es))) := by
    cases po with
    | fin h => exact h
  obtain ⟨W, pc⟩ := WasN.first nm1 tn1 ne1 hfin (by omega) (by simp only at pops; omega)
  obtain ⟨y, y1, y2, y3⟩ := W.file
  obtain ⟨g5, dGF5⟩ := FsH.otherX g4 cx5 dGF (fun _ _ e => e)
  have N5 := N4.chx cx5 (fun _ e => e.elim)
  have hs5 := cx5.size
  have nc : ¬ F H3.size := fun e => by have := lF _ e; omega
  have nd : ∀ g, H2.size ≤ g → ¬ F g := fun g hg e => by have := lF _ e; omega
  have k5 : H5[H3.size]? = some (.cells #[.int .i64 more.length, .slice a1 xs.length a2, .slice c1 es.length c2] 28) := (cx5.get _ (by omega) nc (fun e => e)).trans k4
  have nc5 : ¬ F5 H3.size := cx5.not (by omega) nc
  have nG3 : ¬ G H3.size := fun e => by have := lG _ e; omega
  have od5 := (OwnA.mk od4 fun g hg => nd g (od4.blk hg).1).keep cx5 fun g _ e => e
  have od5G : ∀ g, blk (.slice d1 deg.length d2) = some g → ¬ G g := fun g hg e => by have := lG _ e; have := (od4.blk hg).1; omega
  clear had oa oc od oa4 oc4 od4 hdeg hxs hes
  obtain ⟨R, hR⟩ : ∃ R, R = rowB (fileR (chkHead 1 more.length xs es) (chkData xs es)) := ⟨_, rfl⟩
  have hRl : R.length ≤ 27988 ∧ 28 ≤ R.length := by rw [hR]; exact cf
  have hC : (chkHead 1 more.length xs es).length ≤ 1024 ∧ Byt (chkHead 1 more.length xs es) := ⟨by omega, head_wf _ _ _ _⟩
  have hD : ∀ p ∈ chkData xs es, p.length ≤ 1024 ∧ Byt p := fun p hp => chk_byt hm p hp
  have bR : Byt R := by rw [hR]; exact rowB_byt fun g hg => (file_mem hC hD g hg).2.2
  obtain ⟨_, _, _, _, _, hP5⟩ := h5
  have hsz := size_calm pc y1
  have hrd := read_calm pc y1 (a := 0) (k := R.length) (by omega) (by omega)
  rw [y2, ← hR] at hrd hsz
  rw [show Int.toNat 0 = 0 from rfl, List.drop_zero, List.take_of_length_le (by omega)] at hrd
  simp only [go_sem, ↓reduceIte, Nat.reduceEqDiff, Nat.reduceLeDiff, Nat.reduceAdd, Nat.reduceMul, Nat.reduceSub, Nat.reduceBEq, Nat.reduceGT, Nat.reduceLT, Int.reduceLE, Int.reduceLT, Int.reduceNeg, reduceCtorEq, ptrOf]
  refine FunI.by (F13 hP5 pc.ok.nowH (nmK 49)) ?_
  rintro _ H6 ⟨rfl, x6⟩
  rw [hsz]
  simp only [go_sem, ↓reduceIte, Nat.reduceEqDiff, Nat.reduceLeDiff, Nat.reduceAdd, Nat.reduceMul, Nat.reduceSub, Nat.reduceBEq, Nat.reduceGT, Nat.reduceLT, Int.reduceLE, Int.reduceLT, Int.reduceNeg, reduceCtorEq, ptrOf]
  refine FunI.by (F14 (hP5.ext x6) pc.ok (nmK 49) 0 R.length (by omega)) ?_
  rintro _ H7 ⟨u7, rfl, o7, x7⟩
  rw [hrd] at o7 ⊢
  have x57 := Upto.ext x6 x6.size x7
  have h7 : FsH H7 F5 b s := ⟨_, _, _, _, _, hP5.ext x57⟩
  have g7 := g5.ext x57
  have N7 := N5.ext x57
  have lF5 : ∀ g, F5 g → g < H5.size := fun g hg => FsH.lt ⟨_, _, _, _, _, hP5⟩ hg
  have hs6 := x6.size
  have hs7 := x7.size
  have A7 : OwnA H7 G H6.size 5 u7 (R.map (.int .u8)) := OwnA.of o7 fun g hg => by have := lG g hg; omega
  have k7 := (x57.get _ (by omega)).trans k5
  have od7 := od5.ext x57
  obtain ⟨ua, uc, rfl⟩ := Ints.form (xs := R) (k := .u8) o7.sl
  have q1 : ¬ ((R.length : Int) < 28) := by omega
  simp only [go_sem, ↓reduceIte, Nat.reduceEqDiff, Nat.reduceLeDiff, Nat.reduceAdd, Nat.reduceMul, Nat.reduceSub, Nat.reduceBEq, Nat.reduceGT, Nat.reduceLT, Int.reduceLE, Int.reduceLT, Int.reduceNeg, reduceCtorEq, ptrOf, q1]
  refine FunI.by (F12 _ _) ?_
  rintro _ _ ⟨rfl, rfl⟩
  simp only [go_sem, ↓reduceIte, Nat.reduceEqDiff, Nat.reduceLeDiff, Nat.reduceAdd, Nat.reduceMul, Nat.reduceSub, Nat.reduceBEq, Nat.reduceGT, Nat.reduceLT, Int.reduceLE, Int.reduceLT, Int.reduceNeg, reduceCtorEq, ptrOf, Int.reduceEq, q1]
  obtain ⟨_, _, _, _, _, hG7⟩ := g7
  have fo : (freshS 1048576).ops = 0 := rfl
  refine FunI.by (F15 hG7 p0.ok (by omega) (nmK 49)) ?_
  rintro _ H8 ⟨xc, hxc, rfl, G8, g8, ch8⟩
  obtain ⟨h8, dFG8⟩ := h7.other ch8 (fun g hF hG => dGF5 g hG hF)
  obtain ⟨q0, q1', q2, q3, q4⟩ := pick_nums at' R.length (by omega) (by omega)
  obtain ⟨cut, hcut⟩ : ∃ k, k = pickN at' R.length := ⟨_, rfl⟩
  rw [← hcut] at q0 q1' q4
  obtain ⟨S2, ad⟩ := add_peace p0 nm1 rfl hxc (b := R.take cut) (fun c hc => bR c (List.mem_of_mem_take hc)) (by rw [held_fresh]; show _ ≤ (1048576 : Int) - 0; rw [List.length_take]; omega)
  have NG7 : Newly H H7 G := ⟨N7.1, nG⟩
  have NG8 := NG7.chx ch8.chx (X := fun _ => False) (fun _ e => e.elim)
  have A8 := A7.keep ch8.chx (X := fun _ => False) (fun _ _ e => e)
  have odG7 : OwnA H7 G H2.size 3 (.slice d1 deg.length d2) (deg.map (.int .i64)) := ⟨od7.own, od5G⟩
  have odG8 := odG7.keep ch8.chx (X := fun _ => False) (fun _ _ e => e)
  have nG7 : H3.size < H7.size := by omega
  have k8 := (ch8.get _ nG7 nG3).trans k7
  have nG8 : ¬ G8 H3.size := ch8.chx.not (X := fun _ => False) nG7 nG3
  have hs8 := ch8.size
  have i8 := ints_take A8.own.sl (m := cut) (by omega)
  have lc8 := Sl.lecap A8.own.sl
  obtain ⟨_, _, _, _, _, hG8⟩ := g8
  have ec0 : ((R.length : Int) = 0) = False := eq_false (by omega)
  have ec1 : (0 : Int) ≤ (cut : Int) := by omega
  have ec2 : (cut : Int) ≤ (uc : Int) := by omega
  have ew6 : (if uc = 0 then ua else Option.map (fun x => x) ua) = ua := by cases ua <;> simp
  simp only [go_sem, ↓reduceIte, Nat.reduceEqDiff, Nat.reduceLeDiff, Nat.reduceAdd, Nat.reduceMul, Nat.reduceSub, Nat.reduceBEq, Nat.reduceGT, Nat.reduceLT, Int.reduceLE, Int.reduceLT, Int.reduceNeg, reduceCtorEq, ptrOf, Int.toNat_natCast, ec0, ec1, ec2, ew6, q1', q2, q3, q4, not_false_eq_true, ne_eq, true_and]
  refine FunI.by (F16 hG8 ad.pc1.ok (by rw [ad.ops1]; omega) (nmK 49) i8 (by rw [List.length_take]; omega)) ?_
  rw [ad.append]
  rintro _ H9 ⟨rfl, G9, g9, ch9⟩
  obtain ⟨h9, dFG9⟩ := h8.other ch9 dFG8
  have NG9 := NG8.chx ch9.chx (X := fun _ => False) (fun _ e => e.elim)
  have odG9 := odG8.keep ch9.chx (X := fun _ => False) (fun _ _ e => e)
  have k9 := (ch9.get _ (by omega) nG8).trans k8
  have hs9 := ch9.size
  obtain ⟨_, t9⟩ := NG9.stg0 ht
  simp only at g9
  have j2 : hget H9 H3.size 2 = some (.slice c1 es.length c2) := by rw [hget_cells k9]; rfl
  have e90 : ∀ hd l e, Loads S2 (nameS 1) hd l e → e = 90 := fun hd l e hL => by
    rw [en] at hL
    exact loads_cut ad.pc ad.now hC hD (m := cut) (by rw [← hR]; exact q0) (by rw [ad.dat, hR]) hL
  have hkc : ∀ hd l e, Loads S2 (nameS 1) hd l e → Byt hd ∧ (∀ y ∈ l, Byt y ∧ y.length ≤ 140737488350000) ∧ l.length ≤ 1000000000 := by
    intro hd l e hL
    obtain ⟨rfl, rfl⟩ := loads_err hL (by rw [e90 hd l e hL]; decide)
    exact ⟨fun y hy => (by cases hy), fun y hy => (by cases hy), by simp⟩
  simp only [go_sem, ↓reduceIte, Nat.reduceEqDiff, Nat.reduceLeDiff, Nat.reduceAdd, Nat.reduceMul, Nat.reduceSub, Nat.reduceBEq, Nat.reduceGT, Nat.reduceLT, Int.reduceLE, Int.reduceLT, Int.reduceNeg, reduceCtorEq, ptrOf, j2]
  refine FunI.by (F10 _ 1 (es.length : Nat) deg H9 g9 ad.pc.ok ad.pc.on t9 (tab.ext NG9.1) odG9.own.sl (by omega) hkc) ?_
  rintro _ HA ⟨xA, hd, l, e, hL, hr⟩
  rw [cloadS_bad (by rw [e90 _ _ _ hL]; decide)] at hr
  subst hr
  have p90 : (HA.push (.cells #[.int .i64 0, .slice none 0 0, .slice none 0 0] 28)).size = HA.size + 1 := by simp
  have e8 : IntKind.i64.wrap (8 * (R.length : Int)) = ((8 * R.length : Nat) : Int) := by rw [w64_id (by omega) (by omega)]; omega
  have e80 : (((8 * R.length : Nat) : Int) = 0) = False := eq_false (by omega)
  obtain ⟨r0, r1, r2, r3, r4⟩ := pick_nums at' (8 * R.length) (by omega) (by omega)
  obtain ⟨bit, hbit⟩ : ∃ k, k = pickN at' (8 * R.length) := ⟨_, rfl⟩
  rw [← hbit] at r0 r1 r4
  obtain ⟨M, hM, hM1, hM2⟩ := mask_or mask
  obtain ⟨HB, hHB⟩ : ∃ G, G = HA.push (.cells #[.int .i64 0, .slice none 0 0, .slice none 0 0] 28) := ⟨_, rfl⟩
  have xB : Ext H9 HB := by rw [hHB]; exact xA.trans ((Ext.push _).mono xA.size)
  simp only [go_sem, ↓reduceIte, Nat.reduceEqDiff, Nat.reduceLeDiff, Nat.reduceAdd, Nat.reduceMul, Nat.reduceSub, Nat.reduceBEq, Nat.reduceGT, Nat.reduceLT, Int.reduceLE, Int.reduceLT, Int.reduceNeg, reduceCtorEq, ptrOf, hput_push3, hcan_push, List.all_cons, List.all_nil, Value.oneCell', e8, e80, r1, r2, r3, r4, hM, not_false_eq_true, ne_eq, true_and]
  rw [← hHB]
  have hB := h9.ext xB
  have kB := (xB.get _ (by omega)).trans k9
  have NB : Newly H HB F5 := ⟨(NG9.ext xB).1, N7.2⟩
  have oB : OwnA HB F5 H2.size 3 (.slice d1 deg.length d2) (deg.map (.int .i64)) := ⟨(odG9.ext xB).own, od7.aw⟩
  have hsB' := xB.size
  refine LoopI.by mixed (fun ρ H' => ∃ (i : Nat) (s' : St) (F' : Nat → Prop), ρ 3 = .int .u32 M ∧ ρ 10 = .pointer (some ⟨b, 0, none⟩) ∧ ρ 12 = .pointer (some ⟨H3.size, 0, none⟩) ∧ ρ 13 = .slice d1 deg.length d2 ∧ ρ 17 = .slice ua R.length uc ∧ ρ 20 = .bool false ∧ ρ 21 = .int .i64 0 ∧ ρ 22 = .int .i64 bit ∧ ρ 23 = .int .i64 i ∧ i ≤ 32 ∧
      FsH H' F' b s' ∧ Peace s' ∧ s'.now = s.now ∧ s'.dat y = turnB R bit M i ∧ Newly H H' F' ∧ H3.size < H'.size ∧ H'[H3.size]? = some (.cells #[.int .i64 more.length, .slice a1 xs.length a2, .slice c1 es.length c2] 28) ∧ ¬ F' H3.size ∧ OwnA H' F' H2.size 3 (.slice d1 deg.length d2) (deg.map (.int .i64)))
    (fun ρ _ => 32 - (iof (ρ 23)).toNat) ?_ ?_
  · exact ⟨0, s, F5, by simp only [go_sem, ↓reduceIte, Nat.reduceEqDiff, Nat.reduceLeDiff, Nat.reduceAdd, Nat.reduceMul, Nat.reduceSub, Nat.reduceBEq, Nat.reduceGT, Nat.reduceLT, Int.reduceLE, Int.reduceLT, Int.reduceNeg, reduceCtorEq], by simp only [go_sem, ↓reduceIte, Nat.reduceEqDiff, Nat.reduceLeDiff, Nat.reduceAdd, Nat.reduceMul, Nat.reduceSub, Nat.reduceBEq, Nat.reduceGT, Nat.reduceLT, Int.reduceLE, Int.reduceLT, Int.reduceNeg, reduceCtorEq], by simp only [go_sem, ↓reduceIte, Nat.reduceEqDiff, Nat.reduceLeDiff, Nat.reduceAdd, Nat.reduceMul, Nat.reduceSub, Nat.reduceBEq, Nat.reduceGT, Nat.reduceLT, Int.reduceLE, Int.reduceLT, Int.reduceNeg, reduceCtorEq], by simp only [go_sem, ↓reduceIte, Nat.reduceEqDiff, Nat.reduceLeDiff, Nat.reduceAdd, Nat.reduceMul, Nat.reduceSub, Nat.reduceBEq, Nat.reduceGT, Nat.reduceLT, Int.reduceLE, Int.reduceLT, Int.reduceNeg, reduceCtorEq], by simp only [go_sem, ↓reduceIte, Nat.reduceEqDiff, Nat.reduceLeDiff, Nat.reduceAdd, Nat.reduceMul, Nat.reduceSub, Nat.reduceBEq, Nat.reduceGT, Nat.reduceLT, Int.reduceLE, Int.reduceLT, Int.reduceNeg, reduceCtorEq], by simp only [go_sem, ↓reduceIte, Nat.reduceEqDiff, Nat.reduceLeDiff, Nat.reduceAdd, Nat.reduceMul, Nat.reduceSub, Nat.reduceBEq, Nat.reduceGT, Nat.reduceLT, Int.reduceLE, Int.reduceLT, Int.reduceNeg, reduceCtorEq], by simp only [go_sem, ↓reduceIte, Nat.reduceEqDiff, Nat.reduceLeDiff, Nat.reduceAdd, Nat.reduceMul, Nat.reduceSub, Nat.reduceBEq, Nat.reduceGT, Nat.reduceLT, Int.reduceLE, Int.reduceLT, Int.reduceNeg, reduceCtorEq], by simp only [go_sem, ↓reduceIte, Nat.reduceEqDiff, Nat.reduceLeDiff, Nat.reduceAdd, Nat.reduceMul, Nat.reduceSub, Nat.reduceBEq, Nat.reduceGT, Nat.reduceLT, Int.reduceLE, Int.reduceLT, Int.reduceNeg, reduceCtorEq], by simp only [go_sem, ↓reduceIte, Nat.reduceEqDiff, Nat.reduceLeDiff, Nat.reduceAdd, Nat.reduceMul, Nat.reduceSub, Nat.reduceBEq, Nat.reduceGT, Nat.reduceLT, Int.reduceLE, Int.reduceLT, Int.reduceNeg, reduceCtorEq]; rfl, by omega, hB, pc, rfl, by rw [y2, ← hR]; rfl, NB, by omega, kB, nc5, oB⟩
  clear hB NB oB hrd hsz h9 h8 h7 A8 A7 odG9 odG8 odG7 NG9 NG8 NG7 g9 ad q0 q1' q2 q3 q4 r1 r2 r3 r4 cf po pops
  rintro ρ HC ⟨i, s', F', e3, e10, e12, e13, e17, e20, e21, e22, e23, hi, hC', pc', hn', hd', NC, lC, kC, nC, oC⟩
  obtain ⟨tl1, tl2, tl3⟩ := turn_bits bR bit M i
  have w1 : IntKind.i64.wrap ((bit : Int) + (i : Int)) = ((bit + i : Nat) : Int) := by rw [w64_id (by omega) (by omega)]; omega
  have w2 : IntKind.i64.wrap (Int.tdiv ((bit + i : Nat) : Int) 8) = (((bit + i) / 8 : Nat) : Int) := by
    have : Int.tdiv ((bit + i : Nat) : Int) 8 = (((bit + i) / 8 : Nat) : Int) := by rw [Int.tdiv_eq_ediv_of_nonneg (by omega)]; omega
    rw [this]; exact w64_id (by omega) (by omega)
  have n8 : ¬ ((8 : Int) = 0) := by decide
  have yN : s'.now (nmK 49) = some y := by rw [hn']; exact y1
  by_cases hlt : i < 32 ∧ (bit + i) / 8 < R.length
  · have c1 : (i : Int) < 32 := by omega
    have c2 : ((((bit + i) / 8 : Nat) : Int)) < R.length := by omega
    obtain ⟨mb1, mb2, mb3, mb4⟩ := mask_bit hM1 hlt.1
    have w3 : IntKind.i64.wrap ((i : Int) + 1) = ((i + 1 : Nat) : Int) := by rw [w64_id (by omega) (by omega)]; omega
    by_cases hc : M.testBit (31 - i) = true
    · have c3 := mb4.2 hc
      have w4 : Int.tmod ((bit + i : Nat) : Int) 8 = (((bit + i) % 8 : Nat) : Int) := by rw [Int.tmod_eq_emod_of_nonneg (by omega)]; omega
      have w5 : IntKind.i64.wrap (7 - (((bit + i) % 8 : Nat) : Int)) = ((7 - (bit + i) % 8 : Nat) : Int) := by rw [w64_id (by omega) (by omega)]; omega
      have w6 : IntKind.u64.wrap ((7 - (bit + i) % 8 : Nat) : Int) = ((7 - (bit + i) % 8 : Nat) : Int) := by rw [wu64]; omega
      have w7 : (0 : Int) ≤ ((7 - (bit + i) % 8 : Nat) : Int) := by omega
      have w8 := shl_one64 (k := 7 - (bit + i) % 8) (by omega)
      have et : turnB R bit M (i + 1) = (turnB R bit M i).set ((bit + i) / 8) (ibits .xor .u8 ((turnB R bit M i).getD ((bit + i) / 8) 0) ((2 ^ (7 - (bit + i) % 8) : Nat) : Int)) := by
        conv => lhs; unfold turnB
        rw [if_pos ⟨hlt.2, hc⟩]
      obtain ⟨z1, z2, z3, z4⟩ := rot_calm pc' yN (a := (bit + i) / 8) (k := 7 - (bit + i) % 8) (by rw [hd', tl1]; exact hlt.2) (by omega)
      obtain ⟨_, _, _, _, _, hPC⟩ := hC'
      simp only [go_sem, ↓reduceIte, Nat.reduceEqDiff, Nat.reduceLeDiff, Nat.reduceAdd, Nat.reduceMul, Nat.reduceSub, Nat.reduceBEq, Nat.reduceGT, Nat.reduceLT, Int.reduceLE, Int.reduceLT, Int.reduceNeg, reduceCtorEq, c4_L0, e3, e10, e12, e13, e17, e20, e21, e22, e23, c1, w1, w2, c2, mb1, mb2, mb3, c3, w4, w5, w6, w7, w8, n8, not_false_eq_true, ne_eq, true_and]
      refine FunI.by (F17 hPC pc'.ok (nmK 49) (((bit + i) / 8 : Nat) : Int) ((2 ^ (7 - (bit + i) % 8) : Nat) : Int)) ?_
      rintro _ HD ⟨rfl, FD, hD', chD⟩
      have chX : ChX (fun _ => False) F' FD HC HD := chD.chx
      simp only [go_sem, ↓reduceIte, Nat.reduceEqDiff, Nat.reduceLeDiff, Nat.reduceAdd, Nat.reduceMul, Nat.reduceSub, Nat.reduceBEq, Nat.reduceGT, Nat.reduceLT, Int.reduceLE, Int.reduceLT, Int.reduceNeg, reduceCtorEq, e3, e10, e12, e13, e17, e20, e21, e22, e23, w3]
      refine ⟨Hold.mk ⟨i + 1, _, FD, by simp only [go_sem, ↓reduceIte, Nat.reduceEqDiff, Nat.reduceLeDiff, Nat.reduceAdd, Nat.reduceMul, Nat.reduceSub, Nat.reduceBEq, Nat.reduceGT, Nat.reduceLT, Int.reduceLE, Int.reduceLT, Int.reduceNeg, reduceCtorEq, e3], by simp only [go_sem, ↓reduceIte, Nat.reduceEqDiff, Nat.reduceLeDiff, Nat.reduceAdd, Nat.reduceMul, Nat.reduceSub, Nat.reduceBEq, Nat.reduceGT, Nat.reduceLT, Int.reduceLE, Int.reduceLT, Int.reduceNeg, reduceCtorEq, e10], by simp only [go_sem, ↓reduceIte, Nat.reduceEqDiff, Nat.reduceLeDiff, Nat.reduceAdd, Nat.reduceMul, Nat.reduceSub, Nat.reduceBEq, Nat.reduceGT, Nat.reduceLT, Int.reduceLE, Int.reduceLT, Int.reduceNeg, reduceCtorEq, e12], by simp only [go_sem, ↓reduceIte, Nat.reduceEqDiff, Nat.reduceLeDiff, Nat.reduceAdd, Nat.reduceMul, Nat.reduceSub, Nat.reduceBEq, Nat.reduceGT, Nat.reduceLT, Int.reduceLE, Int.reduceLT, Int.reduceNeg, reduceCtorEq, e13], by simp only [go_sem, ↓reduceIte, Nat.reduceEqDiff, Nat.reduceLeDiff, Nat.reduceAdd, Nat.reduceMul, Nat.reduceSub, Nat.reduceBEq, Nat.reduceGT, Nat.reduceLT, Int.reduceLE, Int.reduceLT, Int.reduceNeg, reduceCtorEq, e17], by simp only [go_sem, ↓reduceIte, Nat.reduceEqDiff, Nat.reduceLeDiff, Nat.reduceAdd, Nat.reduceMul, Nat.reduceSub, Nat.reduceBEq, Nat.reduceGT, Nat.reduceLT, Int.reduceLE, Int.reduceLT, Int.reduceNeg, reduceCtorEq, e20], by simp only [go_sem, ↓reduceIte, Nat.reduceEqDiff, Nat.reduceLeDiff, Nat.reduceAdd, Nat.reduceMul, Nat.reduceSub, Nat.reduceBEq, Nat.reduceGT, Nat.reduceLT, Int.reduceLE, Int.reduceLT, Int.reduceNeg, reduceCtorEq, e21], by simp only [go_sem, ↓reduceIte, Nat.reduceEqDiff, Nat.reduceLeDiff, Nat.reduceAdd, Nat.reduceMul, Nat.reduceSub, Nat.reduceBEq, Nat.reduceGT, Nat.reduceLT, Int.reduceLE, Int.reduceLT, Int.reduceNeg, reduceCtorEq, e22], by simp only [go_sem, ↓reduceIte, Nat.reduceEqDiff, Nat.reduceLeDiff, Nat.reduceAdd, Nat.reduceMul, Nat.reduceSub, Nat.reduceBEq, Nat.reduceGT, Nat.reduceLT, Int.reduceLE, Int.reduceLT, Int.reduceNeg, reduceCtorEq], by omega, hD', z2, by rw [z3, hn'], by rw [z4, hd', et], NC.chx chX (fun _ e => e.elim), Nat.lt_of_lt_of_le lC chD.size, (chD.get _ lC nC).trans kC, chX.not lC nC, oC.keep chX (fun _ _ e => e)⟩, by omega⟩
    · have c3 : ¬ (ibits .and .u32 (ishr .u32 (M : Int) (31 - (i : Int))) 1 = 1) := fun e => hc (mb4.1 e)
      have et : turnB R bit M (i + 1) = turnB R bit M i := by
        conv => lhs; unfold turnB
        rw [if_neg (fun e => hc e.2)]
      simp only [go_sem, ↓reduceIte, Nat.reduceEqDiff, Nat.reduceLeDiff, Nat.reduceAdd, Nat.reduceMul, Nat.reduceSub, Nat.reduceBEq, Nat.reduceGT, Nat.reduceLT, Int.reduceLE, Int.reduceLT, Int.reduceNeg, reduceCtorEq, c4_L0, e3, e10, e12, e13, e17, e20, e21, e22, e23, c1, w1, w2, c2, mb1, mb2, mb3, c3, w3, n8, not_false_eq_true, ne_eq, true_and]
      exact ⟨Hold.mk ⟨i + 1, s', F', by simp only [go_sem, ↓reduceIte, Nat.reduceEqDiff, Nat.reduceLeDiff, Nat.reduceAdd, Nat.reduceMul, Nat.reduceSub, Nat.reduceBEq, Nat.reduceGT, Nat.reduceLT, Int.reduceLE, Int.reduceLT, Int.reduceNeg, reduceCtorEq, e3], by simp only [go_sem, ↓reduceIte, Nat.reduceEqDiff, Nat.reduceLeDiff, Nat.reduceAdd, Nat.reduceMul, Nat.reduceSub, Nat.reduceBEq, Nat.reduceGT, Nat.reduceLT, Int.reduceLE, Int.reduceLT, Int.reduceNeg, reduceCtorEq, e10], by simp only [go_sem, ↓reduceIte, Nat.reduceEqDiff, Nat.reduceLeDiff, Nat.reduceAdd, Nat.reduceMul, Nat.reduceSub, Nat.reduceBEq, Nat.reduceGT, Nat.reduceLT, Int.reduceLE, Int.reduceLT, Int.reduceNeg, reduceCtorEq, e12], by simp only [go_sem, ↓reduceIte, Nat.reduceEqDiff, Nat.reduceLeDiff, Nat.reduceAdd, Nat.reduceMul, Nat.reduceSub, Nat.reduceBEq, Nat.reduceGT, Nat.reduceLT, Int.reduceLE, Int.reduceLT, Int.reduceNeg, reduceCtorEq, e13], by simp only [go_sem, ↓reduceIte, Nat.reduceEqDiff, Nat.reduceLeDiff, Nat.reduceAdd, Nat.reduceMul, Nat.reduceSub, Nat.reduceBEq, Nat.reduceGT, Nat.reduceLT, Int.reduceLE, Int.reduceLT, Int.reduceNeg, reduceCtorEq, e17], by simp only [go_sem, ↓reduceIte, Nat.reduceEqDiff, Nat.reduceLeDiff, Nat.reduceAdd, Nat.reduceMul, Nat.reduceSub, Nat.reduceBEq, Nat.reduceGT, Nat.reduceLT, Int.reduceLE, Int.reduceLT, Int.reduceNeg, reduceCtorEq, e20], by simp only [go_sem, ↓reduceIte, Nat.reduceEqDiff, Nat.reduceLeDiff, Nat.reduceAdd, Nat.reduceMul, Nat.reduceSub, Nat.reduceBEq, Nat.reduceGT, Nat.reduceLT, Int.reduceLE, Int.reduceLT, Int.reduceNeg, reduceCtorEq, e21], by simp only [go_sem, ↓reduceIte, Nat.reduceEqDiff, Nat.reduceLeDiff, Nat.reduceAdd, Nat.reduceMul, Nat.reduceSub, Nat.reduceBEq, Nat.reduceGT, Nat.reduceLT, Int.reduceLE, Int.reduceLT, Int.reduceNeg, reduceCtorEq, e22], by simp only [go_sem, ↓reduceIte, Nat.reduceEqDiff, Nat.reduceLeDiff, Nat.reduceAdd, Nat.reduceMul, Nat.reduceSub, Nat.reduceBEq, Nat.reduceGT, Nat.reduceLT, Int.reduceLE, Int.reduceLT, Int.reduceNeg, reduceCtorEq], by omega, hC', pc', hn', by rw [hd', et], NC, lC, kC, nC, oC⟩, by omega⟩
  · have i1 : 1 ≤ i := by omega
    have f90 : ∀ hd l e, Loads s' (nmK 49) hd l e → e = 90 := fun hd l e hL =>
      loads_burst pc' yN hC hD (T := turnB R bit M i) tl2 (by rw [tl1, hR]) hd' (a := bit) (g := fun q => decide (bit ≤ q ∧ q < bit + i ∧ q < 8 * R.length) && M.testBit (31 - (q - bit))) (fun q _ => by rw [tl3 q, hR]) (by rw [tl1]; exact r0)
        (by rw [decide_eq_true (by omega), Bool.true_and, show 31 - (bit - bit) = 31 by omega]; exact hM2) (fun q hq => by rw [decide_eq_false (by omega), Bool.false_and]) (fun q hq => by rw [decide_eq_false (by omega), Bool.false_and]) hL
    have f90' : ∀ hd l e, Loads s' (nameS 1) hd l e → e = 90 := fun hd l e hL => f90 hd l e (by rw [en] at hL; exact hL)
    have hkd : ∀ hd l e, Loads s' (nameS 1) hd l e → Byt hd ∧ (∀ y ∈ l, Byt y ∧ y.length ≤ 140737488350000) ∧ l.length ≤ 1000000000 := by
      intro hd l e hL
      obtain ⟨rfl, rfl⟩ := loads_err hL (by rw [f90' hd l e hL]; decide)
      exact ⟨fun y hy => (by cases hy), fun y hy => (by cases hy), by simp⟩
    obtain ⟨_, tC⟩ := NC.stg0 ht
    have jC : hget HC H3.size 2 = some (.slice c1 es.length c2) := by rw [hget_cells kC]; rfl
    rcases (by omega : ¬ (i : Int) < 32 ∨ ((i : Int) < 32 ∧ ¬ ((((bit + i) / 8 : Nat) : Int)) < R.length)) with c1 | ⟨c1, c2⟩
    case' inl => simp only [go_sem, ↓reduceIte, Nat.reduceEqDiff, Nat.reduceLeDiff, Nat.reduceAdd, Nat.reduceMul, Nat.reduceSub, Nat.reduceBEq, Nat.reduceGT, Nat.reduceLT, Int.reduceLE, Int.reduceLT, Int.reduceNeg, reduceCtorEq, c4_L0, e3, e10, e12, e13, e17, e20, e21, e22, e23, c1, jC]
    case' inr =>
      simp only [go_sem, ↓reduceIte, Nat.reduceEqDiff, Nat.reduceLeDiff, Nat.reduceAdd, Nat.reduceMul, Nat.reduceSub, Nat.reduceBEq, Nat.reduceGT, Nat.reduceLT, Int.reduceLE, Int.reduceLT, Int.reduceNeg, reduceCtorEq, c4_L0, e3, e10, e12, e13, e17, e20, e21, e22, e23, c1, w1, w2, c2, n8, not_false_eq_true, ne_eq, true_and, jC]
    all_goals
      refine FunI.by (F10 _ 1 (es.length : Nat) deg HC hC' pc'.ok pc'.on tC (tab.ext NC.1) oC.own.sl (by omega) hkd) ?_
      rintro _ HD ⟨xD, hd, l, e, hL, hr⟩
      rw [cloadS_bad (by rw [f90' _ _ _ hL]; decide)] at hr
      subst hr
      simp only [go_sem, ↓reduceIte, Nat.reduceEqDiff, Nat.reduceLeDiff, Nat.reduceAdd, Nat.reduceMul, Nat.reduceSub, Nat.reduceBEq, Nat.reduceGT, Nat.reduceLT, Int.reduceLE, Int.reduceLT, Int.reduceNeg, reduceCtorEq, ptrOf, hput_push3, hcan_push, List.all_cons, List.all_nil, Value.oneCell', e3, e10, e12, e13, e17, e20, e21, e22, e23]
      have xE : Ext HC (HD.push (.cells #[.int .i64 0, .slice none 0 0, .slice none 0 0] 28)) := xD.trans ((Ext.push _).mono xD.size)
      refine FunI.by (F18 (n := nmK 49) (hC'.ext xE) pc'.ok (tC.ext xE)) ?_
      rintro _ HF ⟨hdF, lF, eF, uF, vF, rfl, hLF, xF, oF, olF⟩
      have eF90 := f90 _ _ _ hLF
      subst eF90
      simp only [go_sem, ↓reduceIte, Nat.reduceEqDiff, Nat.reduceLeDiff, Nat.reduceAdd, Nat.reduceMul, Nat.reduceSub, Nat.reduceBEq, Nat.reduceGT, Nat.reduceLT, Int.reduceLE, Int.reduceLT, Int.reduceNeg, reduceCtorEq, ptrOf, e3, e10, e12, e13, e17, e20, e21, e22, e23]
      repeat (refine FunI.by (F12 _ _) ?_; rintro _ _ ⟨rfl, rfl⟩; simp only [go_sem, ↓reduceIte, Nat.reduceEqDiff, Nat.reduceLeDiff, Nat.reduceAdd, Nat.reduceMul, Nat.reduceSub, Nat.reduceBEq, Nat.reduceGT, Nat.reduceLT, Int.reduceLE, Int.reduceLT, Int.reduceNeg, reduceCtorEq, ptrOf, Int.reduceEq, e3, e10, e12, e13, e17, e20, e21, e22, e23])
      exact (NC.ext (xE.trans (xF.mono xE.size))).1
end Go.Proofs.YtgigigchjnnonaaDoor
