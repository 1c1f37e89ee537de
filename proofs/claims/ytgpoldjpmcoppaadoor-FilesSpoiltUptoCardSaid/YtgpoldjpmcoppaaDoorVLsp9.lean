/- The law FilesSpoilt, over heaps. -/
import Derived.Test.YtgpoldjpmcoppaaDoorVAdd9
set_option linter.unusedSimpArgs false
set_option linter.unusedVariables false
set_option maxRecDepth 20000
namespace Go.V
open Go
def nmC : Nm := ⟨#[99]⟩
theorem nmC_nm : isNm nmC = true := by decide +kernel
def nmT : Nm := ⟨#[116]⟩
theorem nmT_nm : isNm nmT = true := by decide +kernel
theorem nmCF : nmC ≠ nmF := by decide +kernel
theorem nmTF : nmT ≠ nmF := by decide +kernel
theorem nmTC : nmT ≠ nmC := by decide +kernel
/-- mask | 1<<31. -/
theorem mask_or (x : Int) : ∃ M : Nat, ibits .or .u32 x 2147483648 = (M : Int) ∧ M < 4294967296 ∧ M.testBit 31 = true := by
  refine ⟨(BitVec.ofInt 32 x ||| BitVec.ofInt 32 2147483648).toNat, ?_, (BitVec.ofInt 32 x ||| BitVec.ofInt 32 2147483648).isLt, ?_⟩
  · have h : ibits .or .u32 x 2147483648 = IntKind.u32.wrap ((BitVec.ofInt 32 x ||| BitVec.ofInt 32 2147483648).toNat : Int) := rfl
    rw [h, wu32]
    have := (BitVec.ofInt 32 x ||| BitVec.ofInt 32 2147483648).isLt
    omega
  · rw [BitVec.testBit_toNat, BitVec.getLsbD_or]
    have : (BitVec.ofInt 32 2147483648).getLsbD 31 = true := by decide
    rw [this, Bool.or_true]
/-- mask>>uint(31-i)&1 == 1. -/
theorem mask_bit {M : Nat} (hM : M < 4294967296) {i : Nat} (hi : i < 32) : IntKind.i64.wrap (31 - (i : Int)) = 31 - (i : Int) ∧ IntKind.u64.wrap (31 - (i : Int)) = 31 - (i : Int) ∧ (0 : Int) ≤ 31 - (i : Int) ∧ (ibits .and .u32 (ishr .u32 (M : Int) (31 - (i : Int))) 1 = 1 ↔ M.testBit (31 - i) = true) := by
  refine ⟨w64_id (by omega) (by omega), by rw [wu64]; omega, by omega, ?_⟩
  have e1 : ishr .u32 (M : Int) (31 - (i : Int)) = ((M / 2 ^ (31 - i) : Nat) : Int) := by
    have h : ishr .u32 (M : Int) (31 - (i : Int)) = (M : Int).fdiv (2 ^ (min (31 - (i : Int)).toNat 32)) := rfl
    rw [h, show (31 - (i : Int)).toNat = 31 - i by omega, Nat.min_eq_left (by omega), Int.fdiv_eq_ediv_of_nonneg _ (Int.pow_nonneg (by decide))]
    norm_cast
  rw [e1]
  have hlt : M / 2 ^ (31 - i) < 4294967296 := Nat.lt_of_le_of_lt (Nat.div_le_self _ _) hM
  have e2 := and_mask (k := .u32) (m := 1) (x := ((M / 2 ^ (31 - i) : Nat) : Int)) (Int.natCast_nonneg _) (by simp only [IntKind.bits]; omega) (by decide)
  have e3 : (2 : Int) ^ 1 - 1 = 1 := by decide
  rw [e3] at e2
  rw [e2, Nat.testBit_eq_decide_div_mod_eq]
  generalize M / 2 ^ (31 - i) = q
  constructor
  · intro h; exact decide_eq_true (by omega)
  · intro h; have := of_decide_eq_true h; omega
theorem shl_one {k : Nat} (hk : k < 8) : ishl .u8 1 (k : Int) = ((2 ^ k : Nat) : Int) := by
  have key : ∀ k : Fin 8, ishl .u8 1 (k.val : Int) = ((2 ^ k.val : Nat) : Int) := by decide +kernel
  exact key ⟨k, hk⟩
end Go.V
namespace Go.Proofs.YtgpoldjpmcoppaaDoor
open Go Go.V
-- 4: pith/pithlaw9.FilesSpoilt
-- 9: pith/pithlaw9.first
-- 10: pith/fs.New
-- 11: pith/pithlaw9.clipped
-- 12: pith/pithlaw9.put
-- 21: pith/pithlaw9.pick
-- 13: pith/files.Load
-- 16: (*pith/fs.FS).Size
-- 17: (*pith/fs.FS).Read
-- 22: (*pith/fs.FS).Create
-- 23: (*pith/fs.FS).Append
-- 19: pith/pithlaw9.num
-- 22: []uint8
-- 23: [][]uint8
-- 5: uint8
theorem file_min (hd : List Int) (l : List (List Int)) : 28 ≤ (rowB (fileR hd l)).length := by
  rw [fileR_eq, rowB_snoc, List.length_append, encL_len]
  have : 12 ≤ (rowB (rowI hd l)).length := by
    unfold rowI
    rw [rowB_cons, List.length_append, encL_len]
    omega
  have h4 : (be4 (l.length : Int)).length = 4 := rfl
  omega
set_option maxHeartbeats 6400000 in
theorem F4 (u : Value) (hd : List Int) (v : Value) (l : List (List Int)) (at' mask : Int) (H : Heap) (hu : Ints H 5 .u8 u hd) (hb : Byt hd) (hv : Lists H 22 5 v l) (hbl : ∀ x ∈ l, Byt x) (hat : -9223372036854775808 ≤ at' ∧ at' < 9223372036854775808) (hma : 0 ≤ mask ∧ mask < 4294967296) (ht : CrcTab H) (hl1 : hd.length ≤ 1048576) (hl2 : l.length ≤ 1048576) :
    Fun Tryd.prog 4 #[u, v, .int .i64 at', .int .u32 mask] H (fun r H' => r = .bool true ∧ Ext H H') := by
  obtain ⟨ua, uc, rfl⟩ := hu.form
  obtain ⟨va, vc, rfl⟩ := hv.form
  refine fun_of mixed (args := [_, _, _, _]) Tryd.func4 Tryd.ntmps4 b4 r4 rfl ?_
  simp only [go_sem, ↓reduceIte, Nat.reduceEqDiff, Nat.reduceLeDiff, Nat.reduceAdd, Nat.reduceMul, Nat.reduceSub, Nat.reduceBEq, Nat.reduceGT, Nat.reduceLT, Int.reduceLE, Int.reduceLT, Int.reduceNeg, reduceCtorEq]
  refine FunI.by (F9 H ht) ?_
  rintro _ H1 ⟨rfl, x1⟩
  simp only [go_sem, ↓reduceIte, Nat.reduceEqDiff, Nat.reduceLeDiff, Nat.reduceAdd, Nat.reduceMul, Nat.reduceSub, Nat.reduceBEq, Nat.reduceGT, Nat.reduceLT, Int.reduceLE, Int.reduceLT, Int.reduceNeg, reduceCtorEq]
  refine FunI.by (F10 1048576 H1 trivial) ?_
  rintro _ H2 ⟨x2, h⟩
  rw [if_neg (by omega)] at h
  obtain ⟨b, F, rfl, h2, n2⟩ := h
  have x12 := Upto.ext x1 x1.size x2
  have hs1 := x1.size
  have nF : ∀ g, F g → H.size ≤ g := fun g hg => Nat.le_trans hs1 (n2 g hg)
  have uc0 := Sl.lecap hu
  have em : (if (1024 : Int) < hd.length then (1024 : Int) else hd.length) = ((min hd.length 1024 : Nat) : Int) := by omega
  have ew : (if uc = 0 then ua else Option.map (fun x => x) ua) = ua := by cases ua <;> simp
  simp only [go_sem, ↓reduceIte, Nat.reduceEqDiff, Nat.reduceLeDiff, Nat.reduceAdd, Nat.reduceMul, Nat.reduceSub, Nat.reduceBEq, Nat.reduceGT, Nat.reduceLT, Int.reduceLE, Int.reduceLT, Int.reduceNeg, reduceCtorEq, ptrOf, em, ew, Int.toNat_natCast]
  refine ⟨⟨by omega, by omega⟩, ?_⟩
  refine FunI.by (F11 _ l x12 hv) ?_
  rintro w H3 ⟨vs, ow, ha, x3⟩
  have x03 := Upto.ext x12 x12.size x3
  have hu3 := aw_of (K := H3.size) (F := F) (head_cut hu) x03 nF x03.size
  have hv3 := awl_of ow ha x03 nF (fun g hg => FsH.lt h2 hg)
  obtain ⟨cl1, cl2, cl3⟩ := clipL_facts hbl
  have p0 : Peace (freshS 1048576) := Peace.fresh (by omega)
  have N3 : Newly H H3 F := ⟨x03, nF⟩
  obtain ⟨f3, t3⟩ := N3.stg0 ht
  have bh : Byt (hd.take 1024) := fun c hc => hb c (List.mem_of_mem_take hc)
  have lh : (hd.take 1024).length ≤ 1024 := by simp; omega
  simp only [go_sem, ↓reduceIte, Nat.reduceEqDiff, Nat.reduceLeDiff, Nat.reduceAdd, Nat.reduceMul, Nat.reduceSub, Nat.reduceBEq, Nat.reduceGT, Nat.reduceLT, Int.reduceLE, Int.reduceLT, Int.reduceNeg, reduceCtorEq, ptrOf]
  refine ⟨x3, ?_⟩
  refine FunI.by (F12 (n := nmF) ⟨h2.ext x3, p0, f3, t3⟩ nmF_nm rfl (by decide) hu3 hv3 bh cl3 lh cl2 cl1 (by rw [held_fresh]; decide)) ?_
  rintro _ H4 ⟨rfl, f, F4, hf, st4, hnow, cx4⟩
  have N4 := N3.chx cx4 (fun _ e => e.elim)
  obtain ⟨S, hS⟩ : ∃ S, S = doneS (freshS 1048576) nmF f (hd.take 1024) (clipL l) true := ⟨_, rfl⟩
  have hdat : S.dat f = rowB (fileR (hd.take 1024) (clipL l)) := by rw [hS]; exact setF_same _ _ _
  have hheld : heldS S = (rowB (fileR (hd.take 1024) (clipL l))).length := by rw [hS, doneS_held hf, held_fresh]; simp
  have hroom : S.room = 1048576 := by rw [hS]; rfl
  have hops : S.ops ≤ 1000 := by rw [hS]; unfold doneS freshS; simp only [if_true]; omega
  have hnow2 : ∀ n, S.now n = if n = nmF then some f else none := fun n => by rw [hS]; exact fresh_get 1048576 f n
  rw [← hS] at st4 hnow
  clear hS hu3 hv3 cx4 N3 f3 t3
  obtain ⟨hd', hhd⟩ : ∃ z, z = hd.take 1024 := ⟨_, rfl⟩
  obtain ⟨l', hll⟩ : ∃ z, z = clipL l := ⟨_, rfl⟩
  rw [← hhd] at hdat bh lh hheld
  rw [← hll] at hdat cl1 cl2 cl3 hheld
  have fm := file_mem ⟨lh, bh⟩ (fun p hp => ⟨cl2 p hp, cl3 p hp⟩)
  have fl := file_len lh cl2
  have f28 := file_min hd' l'
  have bR : Byt (rowB (fileR hd' l')) := rowB_byt fun g hg => (fm g hg).2.2
  obtain ⟨R, hR⟩ : ∃ R, R = rowB (fileR hd' l') := ⟨_, rfl⟩
  have hRl : R.length ≤ 50000 ∧ 28 ≤ R.length := by rw [hR]; omega
  obtain ⟨mb, lb, hb4, pv, dv, hP4⟩ := st4.fs
  have hsz := size_calm st4.pc hnow
  have hrd := read_calm st4.pc hnow (a := 0) (k := R.length) (by omega) (by omega)
  rw [hdat, ← hR] at hrd hsz
  rw [show Int.toNat 0 = 0 from rfl, List.drop_zero, List.take_of_length_le (by omega)] at hrd
  simp only [go_sem, ↓reduceIte, Nat.reduceEqDiff, Nat.reduceLeDiff, Nat.reduceAdd, Nat.reduceMul, Nat.reduceSub, Nat.reduceBEq, Nat.reduceGT, Nat.reduceLT, Int.reduceLE, Int.reduceLT, Int.reduceNeg, reduceCtorEq, ptrOf]
  refine FunI.by (F16 hP4 st4.pc.ok.nowH nmF) ?_
  rintro _ H5 ⟨rfl, x5⟩
  rw [hsz]
  simp only [go_sem, ↓reduceIte, Nat.reduceEqDiff, Nat.reduceLeDiff, Nat.reduceAdd, Nat.reduceMul, Nat.reduceSub, Nat.reduceBEq, Nat.reduceGT, Nat.reduceLT, Int.reduceLE, Int.reduceLT, Int.reduceNeg, reduceCtorEq, ptrOf]
  refine FunI.by (F17 (hP4.ext x5) st4.pc.ok nmF 0 R.length (by omega)) ?_
  rintro _ H6 ⟨u6, rfl, o6, x6⟩
  rw [hrd] at o6 ⊢
  have x46 := Upto.ext x5 x5.size x6
  have fs6 := st4.fs.ext x46
  have N6 := N4.ext x46
  have A6 : OwnA H6 F4 H5.size 5 u6 (R.map (.int .u8)) := OwnA.of o6 fun g hg => by have := FsH.lt st4.fs hg; have := x5.size; omega
  have hHB : H.size ≤ H5.size := (N4.ext x5).1.size
  obtain ⟨ua6, uc6, rfl⟩ := Ints.form (xs := R) (k := .u8) o6.sl
  have q1 : ¬ ((R.length : Int) < 28) := by omega
  simp only [go_sem, ↓reduceIte, Nat.reduceEqDiff, Nat.reduceLeDiff, Nat.reduceAdd, Nat.reduceMul, Nat.reduceSub, Nat.reduceBEq, Nat.reduceGT, Nat.reduceLT, Int.reduceLE, Int.reduceLT, Int.reduceNeg, reduceCtorEq, ptrOf, q1]
  refine FunI.by (F21 at' R.length (by omega) (by omega) _) ?_
  rintro _ _ ⟨rfl, rfl⟩
  obtain ⟨cut, hcut⟩ : ∃ c, c = pickN at' R.length := ⟨_, rfl⟩
  have hcl : cut < R.length := by rw [hcut]; exact (pick_nums at' R.length (by omega) (by omega)).1
  rw [← hcut]
  obtain ⟨f6, t6⟩ := N6.stg0 ht
  obtain ⟨_, _, _, _, _, hP6⟩ := fs6
  simp only [go_sem, ↓reduceIte, Nat.reduceEqDiff, Nat.reduceLeDiff, Nat.reduceAdd, Nat.reduceMul, Nat.reduceSub, Nat.reduceBEq, Nat.reduceGT, Nat.reduceLT, Int.reduceLE, Int.reduceLT, Int.reduceNeg, reduceCtorEq, ptrOf]
  refine FunI.by (F22 hP6 st4.pc.ok (by omega) nmC) ?_
  rintro _ H7 ⟨xc, hxc, rfl, F7, h7, ch7⟩
  obtain ⟨S2, ad⟩ := add_peace st4.pc nmC_nm (by rw [hnow2, if_neg nmCF]) hxc (b := R.take cut) (fun c hc => bR c (by rw [← hR]; exact List.mem_of_mem_take hc)) (by rw [hheld, hroom, List.length_take, ← hR]; omega)
  have A7 := A6.keep ch7.chx (X := fun _ => False) (fun _ _ e => e)
  have N7 := N6.chx ch7.chx (X := fun _ => False) (fun _ e => e.elim)
  have i7 := ints_take A7.own.sl (m := cut) (by omega)
  have lc7 := Sl.lecap A7.own.sl
  obtain ⟨_, _, _, _, _, hP7⟩ := h7
  have ec1 : (0 : Int) ≤ (cut : Int) := by omega
  have ec2 : (cut : Int) ≤ (uc6 : Int) := by omega
  have ew6 : (if uc6 = 0 then ua6 else Option.map (fun x => x) ua6) = ua6 := by cases ua6 <;> simp
  simp only [go_sem, ↓reduceIte, Nat.reduceEqDiff, Nat.reduceLeDiff, Nat.reduceAdd, Nat.reduceMul, Nat.reduceSub, Nat.reduceBEq, Nat.reduceGT, Nat.reduceLT, Int.reduceLE, Int.reduceLT, Int.reduceNeg, reduceCtorEq, ptrOf, Int.toNat_natCast, ec1, ec2, ew6]
  refine FunI.by (F23 hP7 ad.pc1.ok (by rw [ad.ops1]; omega) nmC i7 (by rw [List.length_take]; omega)) ?_
  rw [ad.append]
  rintro _ H8 ⟨rfl, F8, h8, ch8⟩
  have A8 := A7.keep ch8.chx (X := fun _ => False) (fun _ _ e => e)
  have N8 := N7.chx ch8.chx (X := fun _ => False) (fun _ e => e.elim)
  obtain ⟨f8, t8⟩ := N8.stg0 ht
  simp only at h8
  simp only [go_sem, ↓reduceIte, Nat.reduceEqDiff, Nat.reduceLeDiff, Nat.reduceAdd, Nat.reduceMul, Nat.reduceSub, Nat.reduceBEq, Nat.reduceGT, Nat.reduceLT, Int.reduceLE, Int.reduceLT, Int.reduceNeg, reduceCtorEq, ptrOf]
  refine FunI.by (F13 (n := nmC) h8 ad.pc.ok t8) ?_
  rintro _ H9 ⟨hd9, l9, e9, u9, v9, rfl, hL9, x9, o9, ol9⟩
  have e90 : e9 = 90 := loads_cut ad.pc ad.now ⟨lh, bh⟩ (fun p hp => ⟨cl2 p hp, cl3 p hp⟩) (m := cut) (by rw [← hR]; exact hcl) (by rw [ad.dat, hR]) hL9
  subst e90
  have A9 := A8.ext x9
  have N9 := N8.ext x9
  have h9 := h8.ext x9
  obtain ⟨ua9, ul9, uc9, rfl⟩ := o9.sl.form
  obtain ⟨va9, vc9, rfl⟩ := ol9.lists.form
  have e8 : IntKind.i64.wrap (8 * (R.length : Int)) = ((8 * R.length : Nat) : Int) := by rw [w64_id (by omega) (by omega)]; omega
  simp only [go_sem, ↓reduceIte, Nat.reduceEqDiff, Nat.reduceLeDiff, Nat.reduceAdd, Nat.reduceMul, Nat.reduceSub, Nat.reduceBEq, Nat.reduceGT, Nat.reduceLT, Int.reduceLE, Int.reduceLT, Int.reduceNeg, reduceCtorEq, ptrOf, e8]
  refine FunI.by (F21 at' (8 * R.length) (by omega) (by omega) _) ?_
  rintro _ _ ⟨rfl, rfl⟩
  obtain ⟨bit, hbit⟩ : ∃ c, c = pickN at' (8 * R.length) := ⟨_, rfl⟩
  have hbl' : bit < 8 * R.length := by rw [hbit]; exact (pick_nums at' (8 * R.length) (by omega) (by omega)).1
  rw [← hbit]
  obtain ⟨M, hM, hM1, hM2⟩ := mask_or mask
  simp only [go_sem, ↓reduceIte, Nat.reduceEqDiff, Nat.reduceLeDiff, Nat.reduceAdd, Nat.reduceMul, Nat.reduceSub, Nat.reduceBEq, Nat.reduceGT, Nat.reduceLT, Int.reduceLE, Int.reduceLT, Int.reduceNeg, reduceCtorEq, ptrOf, hM]
  have hgb : ∃ gb go, ua6 = some ⟨gb, go, none⟩ := Ints.at (H := H9) (xs := R) (e := 5) (k := .u8) A9.own.sl (i := 0) (by omega)
  obtain ⟨gb, go, rfl⟩ := hgb
  have hgB := (A9.own.blk (g := gb) rfl).1
  have h0lt : 0 < H.size := by obtain ⟨t, fr, ht⟩ := ht; exact (Array.getElem?_eq_some_iff.1 ht).1
  have bR' : Byt R := by rw [hR]; exact bR
  refine LoopI.by mixed (fun ρ H' => ∃ (i : Nat), ρ 10 = ptrOf b ∧ ρ 13 = .slice (some ⟨gb, go, none⟩) R.length uc6 ∧ ρ 3 = .int .u32 M ∧ ρ 18 = .int .i64 90 ∧ ρ 19 = .int .i64 bit ∧ ρ 20 = .int .i64 i ∧ i ≤ 32 ∧ FsH H' F8 b S2 ∧ OwnA H' F8 H5.size 5 (.slice (some ⟨gb, go, none⟩) R.length uc6) ((turnB R bit M i).map (.int .u8)) ∧ Newly H H' F8)
    (fun ρ _ => 32 - (iof (ρ 20)).toNat) ?_ ?_
  · exact ⟨0, by simp only [go_sem, ↓reduceIte, Nat.reduceEqDiff, Nat.reduceLeDiff, Nat.reduceAdd, Nat.reduceMul, Nat.reduceSub, Nat.reduceBEq, Nat.reduceGT, Nat.reduceLT, Int.reduceLE, Int.reduceLT, Int.reduceNeg, reduceCtorEq, ptrOf], by simp only [go_sem, ↓reduceIte, Nat.reduceEqDiff, Nat.reduceLeDiff, Nat.reduceAdd, Nat.reduceMul, Nat.reduceSub, Nat.reduceBEq, Nat.reduceGT, Nat.reduceLT, Int.reduceLE, Int.reduceLT, Int.reduceNeg, reduceCtorEq], by simp only [go_sem, ↓reduceIte, Nat.reduceEqDiff, Nat.reduceLeDiff, Nat.reduceAdd, Nat.reduceMul, Nat.reduceSub, Nat.reduceBEq, Nat.reduceGT, Nat.reduceLT, Int.reduceLE, Int.reduceLT, Int.reduceNeg, reduceCtorEq], by simp only [go_sem, ↓reduceIte, Nat.reduceEqDiff, Nat.reduceLeDiff, Nat.reduceAdd, Nat.reduceMul, Nat.reduceSub, Nat.reduceBEq, Nat.reduceGT, Nat.reduceLT, Int.reduceLE, Int.reduceLT, Int.reduceNeg, reduceCtorEq], by simp only [go_sem, ↓reduceIte, Nat.reduceEqDiff, Nat.reduceLeDiff, Nat.reduceAdd, Nat.reduceMul, Nat.reduceSub, Nat.reduceBEq, Nat.reduceGT, Nat.reduceLT, Int.reduceLE, Int.reduceLT, Int.reduceNeg, reduceCtorEq], by simp only [go_sem, ↓reduceIte, Nat.reduceEqDiff, Nat.reduceLeDiff, Nat.reduceAdd, Nat.reduceMul, Nat.reduceSub, Nat.reduceBEq, Nat.reduceGT, Nat.reduceLT, Int.reduceLE, Int.reduceLT, Int.reduceNeg, reduceCtorEq] <;> rfl, by omega, h9, A9, N9⟩
  clear A9 N9 h9 A8 N8 f8 t8 h8 o9 ol9
  rintro ρ HA ⟨i, e10, e13, e3, e18, e19, e20, hi, hA, AA, NA⟩
  obtain ⟨tl1, tl2, tl3⟩ := turn_bits bR' bit M i
  simp only [ptrOf] at e10
  by_cases hlt : i < 32
  · have c1 : (i : Int) < 32 := by omega
    obtain ⟨mb1, mb2, mb3, mb4⟩ := mask_bit hM1 hlt
    have w1 : IntKind.i64.wrap ((bit : Int) + (i : Int)) = ((bit + i : Nat) : Int) := by rw [w64_id (by omega) (by omega)]; omega
    have w2 : IntKind.i64.wrap (Int.tdiv ((bit + i : Nat) : Int) 8) = (((bit + i) / 8 : Nat) : Int) := by
      have : Int.tdiv ((bit + i : Nat) : Int) 8 = (((bit + i) / 8 : Nat) : Int) := by rw [Int.tdiv_eq_ediv_of_nonneg (by omega)]; omega
      rw [this]; exact w64_id (by omega) (by omega)
    have w3 : IntKind.i64.wrap ((i : Int) + 1) = ((i + 1 : Nat) : Int) := by rw [w64_id (by omega) (by omega)]; omega
    by_cases hc : (bit + i) / 8 < R.length ∧ M.testBit (31 - i) = true
    · have c2 : ((((bit + i) / 8 : Nat) : Int)) < R.length := by omega
      have c2' : (0 : Int) ≤ ((((bit + i) / 8 : Nat) : Int)) := by omega
      have c3 := mb4.2 hc.2
      have hx : (bit + i) / 8 < (turnB R bit M i).length := by omega
      have g0 := Ints.get (xs := turnB R bit M i) AA.own.sl hx
      have w4 : Int.tmod ((bit + i : Nat) : Int) 8 = (((bit + i) % 8 : Nat) : Int) := by rw [Int.tmod_eq_emod_of_nonneg (by omega)]; omega
      have w5 : IntKind.i64.wrap (7 - (((bit + i) % 8 : Nat) : Int)) = ((7 - (bit + i) % 8 : Nat) : Int) := by rw [w64_id (by omega) (by omega)]; omega
      have w6 : IntKind.u64.wrap ((7 - (bit + i) % 8 : Nat) : Int) = ((7 - (bit + i) % 8 : Nat) : Int) := by rw [wu64]; omega
      have w7 : (0 : Int) ≤ ((7 - (bit + i) % 8 : Nat) : Int) := by omega
      have w8 := shl_one (k := 7 - (bit + i) % 8) (by omega)
      have n8 : ¬ ((8 : Int) = 0) := by decide
      have et : turnB R bit M (i + 1) = (turnB R bit M i).set ((bit + i) / 8) (ibits .xor .u8 ((turnB R bit M i).getD ((bit + i) / 8) 0) ((2 ^ (7 - (bit + i) % 8) : Nat) : Int)) := by
        conv => lhs; unfold turnB
        rw [if_pos hc]
      obtain ⟨y, hy⟩ : ∃ y, y = ibits .xor .u8 ((turnB R bit M i).getD ((bit + i) / 8) 0) ((2 ^ (7 - (bit + i) % 8) : Nat) : Int) := ⟨_, rfl⟩
      obtain ⟨r1, r2, r3, r4, r5⟩ := AA.own.store (i := (bit + i) / 8) (by omega) (.int .u8 y)
      simp only [go_sem, ↓reduceIte, Nat.reduceEqDiff, Nat.reduceLeDiff, Nat.reduceAdd, Nat.reduceMul, Nat.reduceSub, Nat.reduceBEq, Nat.reduceGT, Nat.reduceLT, Int.reduceLE, Int.reduceLT, Int.reduceNeg, reduceCtorEq, c4_L0, e10, e13, e3, e18, e19, e20, c1, w1, w2, c2, c2', mb1, mb2, mb3, c3, Int.toNat_natCast, g0, w4, w5, w6, w7, w8, ← hy, n8, w3]
      rw [← hy] at et
      have hF8 : ¬ F8 gb := AA.aw gb rfl
      refine ⟨n8, n8, n8, n8, rfl, r2, Hold.mk ⟨i + 1, by simp only [go_sem, ↓reduceIte, Nat.reduceEqDiff, Nat.reduceLeDiff, Nat.reduceAdd, Nat.reduceMul, Nat.reduceSub, Nat.reduceBEq, Nat.reduceGT, Nat.reduceLT, Int.reduceLE, Int.reduceLT, Int.reduceNeg, reduceCtorEq, e10, ptrOf], by simp only [go_sem, ↓reduceIte, Nat.reduceEqDiff, Nat.reduceLeDiff, Nat.reduceAdd, Nat.reduceMul, Nat.reduceSub, Nat.reduceBEq, Nat.reduceGT, Nat.reduceLT, Int.reduceLE, Int.reduceLT, Int.reduceNeg, reduceCtorEq, e13], by simp only [go_sem, ↓reduceIte, Nat.reduceEqDiff, Nat.reduceLeDiff, Nat.reduceAdd, Nat.reduceMul, Nat.reduceSub, Nat.reduceBEq, Nat.reduceGT, Nat.reduceLT, Int.reduceLE, Int.reduceLT, Int.reduceNeg, reduceCtorEq, e3], by simp only [go_sem, ↓reduceIte, Nat.reduceEqDiff, Nat.reduceLeDiff, Nat.reduceAdd, Nat.reduceMul, Nat.reduceSub, Nat.reduceBEq, Nat.reduceGT, Nat.reduceLT, Int.reduceLE, Int.reduceLT, Int.reduceNeg, reduceCtorEq, e18], by simp only [go_sem, ↓reduceIte, Nat.reduceEqDiff, Nat.reduceLeDiff, Nat.reduceAdd, Nat.reduceMul, Nat.reduceSub, Nat.reduceBEq, Nat.reduceGT, Nat.reduceLT, Int.reduceLE, Int.reduceLT, Int.reduceNeg, reduceCtorEq, e19], by simp only [go_sem, ↓reduceIte, Nat.reduceEqDiff, Nat.reduceLeDiff, Nat.reduceAdd, Nat.reduceMul, Nat.reduceSub, Nat.reduceBEq, Nat.reduceGT, Nat.reduceLT, Int.reduceLE, Int.reduceLT, Int.reduceNeg, reduceCtorEq], by omega, hA.put hF8, ⟨by rw [et, List.map_set]; exact r3, AA.aw⟩, ⟨Upto.hput NA.1 (by omega), NA.2⟩⟩, by omega⟩
    · have et : turnB R bit M (i + 1) = turnB R bit M i := by
        conv => lhs; unfold turnB
        rw [if_neg hc]
      by_cases c2 : ((((bit + i) / 8 : Nat) : Int)) < R.length
      · have c3 : ¬ (ibits .and .u32 (ishr .u32 (M : Int) (31 - (i : Int))) 1 = 1) := fun e => hc ⟨by omega, mb4.1 e⟩
        simp only [go_sem, ↓reduceIte, Nat.reduceEqDiff, Nat.reduceLeDiff, Nat.reduceAdd, Nat.reduceMul, Nat.reduceSub, Nat.reduceBEq, Nat.reduceGT, Nat.reduceLT, Int.reduceLE, Int.reduceLT, Int.reduceNeg, reduceCtorEq, c4_L0, e10, e13, e3, e18, e19, e20, c1, w1, w2, c2, mb1, mb2, mb3, c3, w3]
        exact ⟨by decide, Hold.mk ⟨i + 1, by simp only [go_sem, ↓reduceIte, Nat.reduceEqDiff, Nat.reduceLeDiff, Nat.reduceAdd, Nat.reduceMul, Nat.reduceSub, Nat.reduceBEq, Nat.reduceGT, Nat.reduceLT, Int.reduceLE, Int.reduceLT, Int.reduceNeg, reduceCtorEq, e10, ptrOf], by simp only [go_sem, ↓reduceIte, Nat.reduceEqDiff, Nat.reduceLeDiff, Nat.reduceAdd, Nat.reduceMul, Nat.reduceSub, Nat.reduceBEq, Nat.reduceGT, Nat.reduceLT, Int.reduceLE, Int.reduceLT, Int.reduceNeg, reduceCtorEq, e13], by simp only [go_sem, ↓reduceIte, Nat.reduceEqDiff, Nat.reduceLeDiff, Nat.reduceAdd, Nat.reduceMul, Nat.reduceSub, Nat.reduceBEq, Nat.reduceGT, Nat.reduceLT, Int.reduceLE, Int.reduceLT, Int.reduceNeg, reduceCtorEq, e3], by simp only [go_sem, ↓reduceIte, Nat.reduceEqDiff, Nat.reduceLeDiff, Nat.reduceAdd, Nat.reduceMul, Nat.reduceSub, Nat.reduceBEq, Nat.reduceGT, Nat.reduceLT, Int.reduceLE, Int.reduceLT, Int.reduceNeg, reduceCtorEq, e18], by simp only [go_sem, ↓reduceIte, Nat.reduceEqDiff, Nat.reduceLeDiff, Nat.reduceAdd, Nat.reduceMul, Nat.reduceSub, Nat.reduceBEq, Nat.reduceGT, Nat.reduceLT, Int.reduceLE, Int.reduceLT, Int.reduceNeg, reduceCtorEq, e19], by simp only [go_sem, ↓reduceIte, Nat.reduceEqDiff, Nat.reduceLeDiff, Nat.reduceAdd, Nat.reduceMul, Nat.reduceSub, Nat.reduceBEq, Nat.reduceGT, Nat.reduceLT, Int.reduceLE, Int.reduceLT, Int.reduceNeg, reduceCtorEq], by omega, hA, by rw [et]; exact AA, NA⟩, by omega⟩
      · simp only [go_sem, ↓reduceIte, Nat.reduceEqDiff, Nat.reduceLeDiff, Nat.reduceAdd, Nat.reduceMul, Nat.reduceSub, Nat.reduceBEq, Nat.reduceGT, Nat.reduceLT, Int.reduceLE, Int.reduceLT, Int.reduceNeg, reduceCtorEq, c4_L0, e10, e13, e3, e18, e19, e20, c1, w1, w2, c2, w3]
        exact ⟨by decide, Hold.mk ⟨i + 1, by simp only [go_sem, ↓reduceIte, Nat.reduceEqDiff, Nat.reduceLeDiff, Nat.reduceAdd, Nat.reduceMul, Nat.reduceSub, Nat.reduceBEq, Nat.reduceGT, Nat.reduceLT, Int.reduceLE, Int.reduceLT, Int.reduceNeg, reduceCtorEq, e10, ptrOf], by simp only [go_sem, ↓reduceIte, Nat.reduceEqDiff, Nat.reduceLeDiff, Nat.reduceAdd, Nat.reduceMul, Nat.reduceSub, Nat.reduceBEq, Nat.reduceGT, Nat.reduceLT, Int.reduceLE, Int.reduceLT, Int.reduceNeg, reduceCtorEq, e13], by simp only [go_sem, ↓reduceIte, Nat.reduceEqDiff, Nat.reduceLeDiff, Nat.reduceAdd, Nat.reduceMul, Nat.reduceSub, Nat.reduceBEq, Nat.reduceGT, Nat.reduceLT, Int.reduceLE, Int.reduceLT, Int.reduceNeg, reduceCtorEq, e3], by simp only [go_sem, ↓reduceIte, Nat.reduceEqDiff, Nat.reduceLeDiff, Nat.reduceAdd, Nat.reduceMul, Nat.reduceSub, Nat.reduceBEq, Nat.reduceGT, Nat.reduceLT, Int.reduceLE, Int.reduceLT, Int.reduceNeg, reduceCtorEq, e18], by simp only [go_sem, ↓reduceIte, Nat.reduceEqDiff, Nat.reduceLeDiff, Nat.reduceAdd, Nat.reduceMul, Nat.reduceSub, Nat.reduceBEq, Nat.reduceGT, Nat.reduceLT, Int.reduceLE, Int.reduceLT, Int.reduceNeg, reduceCtorEq, e19], by simp only [go_sem, ↓reduceIte, Nat.reduceEqDiff, Nat.reduceLeDiff, Nat.reduceAdd, Nat.reduceMul, Nat.reduceSub, Nat.reduceBEq, Nat.reduceGT, Nat.reduceLT, Int.reduceLE, Int.reduceLT, Int.reduceNeg, reduceCtorEq], by omega, hA, by rw [et]; exact AA, NA⟩, by omega⟩
  · have ei : i = 32 := by omega
    subst ei
    have c1 : ¬ ((32 : Nat) : Int) < 32 := by decide
    simp only [go_sem, ↓reduceIte, Nat.reduceEqDiff, Nat.reduceLeDiff, Nat.reduceAdd, Nat.reduceMul, Nat.reduceSub, Nat.reduceBEq, Nat.reduceGT, Nat.reduceLT, Int.reduceLE, Int.reduceLT, Int.reduceNeg, reduceCtorEq, c4_L0, e10, e13, e3, e18, e19, e20, c1]
    obtain ⟨_, _, _, _, _, hPA⟩ := hA
    refine FunI.by (F22 hPA ad.pc.ok (by rw [ad.ops]; omega) nmT) ?_
    rintro _ HB ⟨xt, hxt, rfl, FB, hB, chB⟩
    obtain ⟨T, hT⟩ : ∃ T, T = turnB R bit M 32 := ⟨_, rfl⟩
    rw [← hT] at tl1 tl2 tl3 AA
    obtain ⟨S3, ad3⟩ := add_peace ad.pc nmT_nm (by rw [ad.other _ nmTC, hnow2, if_neg nmTF]) hxt (b := T) tl2 (by rw [ad.held, ad.room, hheld, hroom, List.length_take, tl1, ← hR]; omega)
    have AB := AA.keep chB.chx (X := fun _ => False) (fun _ _ e => e)
    have NB := NA.chx chB.chx (X := fun _ => False) (fun _ e => e.elim)
    obtain ⟨_, _, _, _, _, hPB⟩ := hB
    simp only [ad3.create, go_sem, ↓reduceIte, Nat.reduceEqDiff, Nat.reduceLeDiff, Nat.reduceAdd, Nat.reduceMul, Nat.reduceSub, Nat.reduceBEq, Nat.reduceGT, Nat.reduceLT, Int.reduceLE, Int.reduceLT, Int.reduceNeg, reduceCtorEq, e10, e13, e3, e18, e19]
    refine FunI.by (F23 hPB ad3.pc1.ok (by rw [ad3.ops1, ad.ops]; omega) nmT AB.own.sl (by rw [tl1]; omega)) ?_
    rw [ad3.append]
    rintro _ HC ⟨rfl, FC, hC, chC⟩
    have NC := NB.chx chC.chx (X := fun _ => False) (fun _ e => e.elim)
    obtain ⟨fC, tC⟩ := NC.stg0 ht
    simp only at hC
    simp only [go_sem, ↓reduceIte, Nat.reduceEqDiff, Nat.reduceLeDiff, Nat.reduceAdd, Nat.reduceMul, Nat.reduceSub, Nat.reduceBEq, Nat.reduceGT, Nat.reduceLT, Int.reduceLE, Int.reduceLT, Int.reduceNeg, reduceCtorEq, e10, e13, e3, e18, e19]
    refine FunI.by (F13 (n := nmT) hC ad3.pc.ok tC) ?_
    rintro _ HD ⟨hdD, lD, eD, uD, vD, rfl, hLD, xD, oD, olD⟩
    have eD90 : eD = 90 := loads_burst ad3.pc ad3.now ⟨lh, bh⟩ (fun p hp => ⟨cl2 p hp, cl3 p hp⟩) (T := T) tl2 (by rw [tl1, hR]) ad3.dat (a := bit) (g := fun q => decide (bit ≤ q ∧ q < bit + 32 ∧ q < 8 * R.length) && M.testBit (31 - (q - bit))) (fun q _ => by rw [tl3 q, hR]) (by rw [tl1]; exact hbl')
      (by rw [decide_eq_true (by omega), Bool.true_and, show 31 - (bit - bit) = 31 by omega]; exact hM2) (fun q hq => by rw [decide_eq_false (by omega), Bool.false_and]) (fun q hq => by rw [decide_eq_false (by omega), Bool.false_and]) hLD
    subst eD90
    simp only [go_sem, ↓reduceIte, Nat.reduceEqDiff, Nat.reduceLeDiff, Nat.reduceAdd, Nat.reduceMul, Nat.reduceSub, Nat.reduceBEq, Nat.reduceGT, Nat.reduceLT, Int.reduceLE, Int.reduceLT, Int.reduceNeg, reduceCtorEq, e10, e13, e3, e18, e19]
    repeat (refine FunI.by (F19 _ _) ?_; rintro _ _ ⟨rfl, rfl⟩; simp only [go_sem, ↓reduceIte, Nat.reduceEqDiff, Nat.reduceLeDiff, Nat.reduceAdd, Nat.reduceMul, Nat.reduceSub, Nat.reduceBEq, Nat.reduceGT, Nat.reduceLT, Int.reduceLE, Int.reduceLT, Int.reduceNeg, reduceCtorEq, e18])
    exact (NC.ext xD).1
end Go.Proofs.YtgpoldjpmcoppaaDoor
