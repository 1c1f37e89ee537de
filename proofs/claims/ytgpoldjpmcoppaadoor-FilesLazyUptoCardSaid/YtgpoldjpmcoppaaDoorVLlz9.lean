/- The law FilesLazy, over heaps. -/
import Derived.Test.YtgpoldjpmcoppaaDoorVJz9
set_option linter.unusedSimpArgs false
set_option linter.unusedVariables false
set_option maxRecDepth 20000
namespace Go.V
open Go
theorem hput_push1 {H : Heap} {z a : Value} {e : TypeId} : hput (H.push (.cells #[z] e)) H.size 0 [a] = H.push (.cells #[a] e) := hput_push rfl
@[go_sem] theorem binP_fn {f : Fn} {a c : Array Value} : binP .eql (.func f a c) .nilFunc = none := rfl
end Go.V
namespace Go.Proofs.YtgpoldjpmcoppaaDoor
open Go Go.V
-- 6: pith/pithlaw9.FilesLazy
-- 9: pith/pithlaw9.first
-- 10: pith/fs.New
-- 11: pith/pithlaw9.clipped
-- 12: pith/pithlaw9.put
-- 21: pith/pithlaw9.pick
-- 28: pith/files.All
-- 53: pith/files.All$1
-- 29: (*pith/fs.FS).Rot
-- 19: pith/pithlaw9.num
-- 15: pith/pithref.SameByteLists
-- 22: []uint8
-- 23: [][]uint8
-- 5: uint8
-- 3: int
-- 4: bool
-- 25: *fs.FS
-- 9: string
theorem lists_take {H : Heap} {a : Option Addr} {cap m : Nat} {l : List (List Int)} (h : Lists H 22 5 (.slice a l.length cap) l) (hm : m ≤ l.length) : Lists H 22 5 (.slice a m cap) (l.take m) := by
  obtain ⟨vs, h1, h2⟩ := h
  have hc := Sl.lecap h1
  have := Sl.sub h1 (l := 0) (h := m) (m := cap) (by omega) hm (by omega)
  simp only [Nat.zero_mul, Nat.sub_zero, Nat.mul_one, List.drop_zero] at this
  have ea : (if cap = 0 then a else Option.map (·.add 0) a) = a := by
    split
    · rfl
    · cases a <;> simp [Addr.add]
  rw [ea] at this
  exact ⟨vs.take m, this, h2.take m⟩
set_option maxHeartbeats 6400000 in
theorem F6 (u : Value) (hd : List Int) (v : Value) (l : List (List Int)) (at' xx : Int) (H : Heap) (hu : Ints H 5 .u8 u hd) (hb : Byt hd) (hv : Lists H 22 5 v l) (hbl : ∀ x ∈ l, Byt x) (hat : -9223372036854775808 ≤ at' ∧ at' < 9223372036854775808) (hxx : -9223372036854775808 ≤ xx ∧ xx < 9223372036854775808) (ht : CrcTab H) (hl1 : hd.length ≤ 1048576) (hl2 : l.length ≤ 1048576) :
    Fun Tryd.prog 6 #[u, v, .int .i64 at', .int .i64 xx] H (fun r H' => r = .bool true ∧ Ext H H') := by
  obtain ⟨ua, uc, rfl⟩ := hu.form
  obtain ⟨va, vc, rfl⟩ := hv.form
  refine fun_ofR mixed (args := [_, _, _, _]) Tryd.func6 Tryd.ntmps6 b6 r6 rfl ?_
  have xA : Ext H (((H.push (.cells #[.int .i64 at'] 3)).push (.cells #[.int .i64 xx] 3)).push (.cells #[.bool false] 4)) := Upto.push (Upto.push (Ext.push _) (by simp) _) (by simp; omega) _
  have k6 : (((H.push (.cells #[.int .i64 at'] 3)).push (.cells #[.int .i64 xx] 3)).push (.cells #[.bool false] 4))[H.size]? = some (.cells #[.int .i64 at'] 3) := by
    rw [push_old (by simp; omega), push_old (by simp)]; exact push_new
  have k7 : (((H.push (.cells #[.int .i64 at'] 3)).push (.cells #[.int .i64 xx] 3)).push (.cells #[.bool false] 4))[H.size + 1]? = some (.cells #[.int .i64 xx] 3) := by
    rw [push_old (by simp)]
    have := push_new (H := H.push (.cells #[.int .i64 at'] 3)) (x := .cells #[.int .i64 xx] 3)
    simpa using this
  have k8 : (((H.push (.cells #[.int .i64 at'] 3)).push (.cells #[.int .i64 xx] 3)).push (.cells #[.bool false] 4))[H.size + 1 + 1]? = some (.cells #[.bool false] 4) := by
    have := push_new (H := (H.push (.cells #[.int .i64 at'] 3)).push (.cells #[.int .i64 xx] 3)) (x := .cells #[.bool false] 4)
    simpa using this
  have sA : (((H.push (.cells #[.int .i64 at'] 3)).push (.cells #[.int .i64 xx] 3)).push (.cells #[.bool false] 4)).size = H.size + 3 := by simp
  obtain ⟨HA, hHA⟩ : ∃ HA, HA = (((H.push (.cells #[.int .i64 at'] 3)).push (.cells #[.int .i64 xx] 3)).push (.cells #[.bool false] 4)) := ⟨_, rfl⟩
  rw [← hHA] at xA k6 k7 k8 sA
  simp only [go_sem, ↓reduceIte, Nat.reduceEqDiff, Nat.reduceLeDiff, Nat.reduceAdd, Nat.reduceMul, Nat.reduceSub, Nat.reduceBEq, Nat.reduceGT, Nat.reduceLT, Int.reduceLE, Int.reduceLT, Int.reduceNeg, reduceCtorEq, Array.size_push, ← hHA]
  refine FunI.by (F9 HA (ht.ext xA)) ?_
  rintro _ H1 ⟨rfl, x1⟩
  have xA1 := Upto.ext xA xA.size x1
  simp only [go_sem, ↓reduceIte, Nat.reduceEqDiff, Nat.reduceLeDiff, Nat.reduceAdd, Nat.reduceMul, Nat.reduceSub, Nat.reduceBEq, Nat.reduceGT, Nat.reduceLT, Int.reduceLE, Int.reduceLT, Int.reduceNeg, reduceCtorEq, Array.size_push]
  refine FunI.by (F10 1048576 H1 trivial) ?_
  rintro _ H2 ⟨x2, h⟩
  rw [if_neg (by omega)] at h
  obtain ⟨b, F, rfl, h2, n2⟩ := h
  have xA2 := Upto.ext xA1 xA1.size x2
  have hs1 := x1.size
  have hs2 := x2.size
  have xB : Ext H2 (H2.push (.cells #[ptrOf b] 25)) := Ext.push _
  have kB : (H2.push (.cells #[ptrOf b] 25))[H2.size]? = some (.cells #[ptrOf b] 25) := push_new
  obtain ⟨HB, hHB⟩ : ∃ HB, HB = H2.push (.cells #[ptrOf b] 25) := ⟨_, rfl⟩
  have xA3 : Ext H HB := by rw [hHB]; exact Upto.ext xA2 xA2.size xB
  have hsB : HB.size = H2.size + 1 := by rw [hHB]; simp
  have h3 : FsH HB F b (freshS 1048576) := by rw [hHB]; exact h2.ext xB
  rw [← hHB] at kB
  simp only [ptrOf] at hHB
  simp only [go_sem, ↓reduceIte, Nat.reduceEqDiff, Nat.reduceLeDiff, Nat.reduceAdd, Nat.reduceMul, Nat.reduceSub, Nat.reduceBEq, Nat.reduceGT, Nat.reduceLT, Int.reduceLE, Int.reduceLT, Int.reduceNeg, reduceCtorEq, ptrOf, hput_push1, ← hHB]
  refine ⟨rfl, hcan_of push_new (by simp), ?_⟩
  refine FunI.by (F11 _ l xA3 hv) ?_
  rintro w H3 ⟨vs, ow, ha, x3⟩
  have x03 := Upto.ext xA3 xA3.size x3
  have hs3 := x3.size
  have nF : ∀ g, F g → H.size ≤ g := fun g hg => by have := n2 g hg; omega
  have lF : ∀ g, F g → g < H2.size := fun g hg => FsH.lt h2 hg
  have hu3 := aw_of (K := H3.size) (F := F) (head_cut hu) x03 nF x03.size
  have hv3 := awl_of ow ha x03 nF (fun g hg => by have := lF g hg; omega)
  obtain ⟨cl1, cl2, cl3⟩ := clipL_facts hbl
  have p0 : Peace (freshS 1048576) := Peace.fresh (by omega)
  have N3 : Newly H H3 F := ⟨x03, nF⟩
  obtain ⟨f3, t3⟩ := N3.stg0 ht
  have bh : Byt (hd.take 1024) := fun c hc => hb c (List.mem_of_mem_take hc)
  have lh : (hd.take 1024).length ≤ 1024 := by simp; omega
  have lh2 : (hd.take 1024).length = min hd.length 1024 := by simp; omega
  have kB3 := x3.old kB
  have qB3 : hget H3 H2.size 0 = some (ptrOf b) := hget_cells kB3
  simp only [ptrOf] at qB3
  have uc0 := Sl.lecap hu
  have em : (if (1024 : Int) < hd.length then (1024 : Int) else hd.length) = ((min hd.length 1024 : Nat) : Int) := by omega
  have ew : (if uc = 0 then ua else Option.map (fun x => x) ua) = ua := by cases ua <;> simp
  simp only [go_sem, ↓reduceIte, Nat.reduceEqDiff, Nat.reduceLeDiff, Nat.reduceAdd, Nat.reduceMul, Nat.reduceSub, Nat.reduceBEq, Nat.reduceGT, Nat.reduceLT, Int.reduceLE, Int.reduceLT, Int.reduceNeg, reduceCtorEq, ptrOf, em, ew, Int.toNat_natCast, qB3]
  refine ⟨⟨by omega, by omega⟩, ?_⟩
  refine FunI.by (F12 (n := nmF) ⟨h3.ext x3, p0, f3, t3⟩ nmF_nm rfl (by decide) hu3 hv3 bh cl3 lh cl2 cl1 (by rw [held_fresh]; decide)) ?_
  rintro _ H4 ⟨rfl, f, F4, hf, st4, hnow, cx4⟩
  have N4 := N3.chx cx4 (fun _ e => e.elim)
  have hs4 := cx4.size
  have hv4 := hv3.keep cx4 (fun _ e => e.elim) (Nat.le_refl _)
  have ow4 : V.Own H4 HB.size 22 1 w vs := ow.keep fun g hg => cx4.get g (ow.blk hg).2.1 (fun e => by have := lF g e; have := (ow.blk hg).1; omega) (fun e => e)
  have cB4 := cx4.keep kB3 (fun e => by have := lF _ e; omega) (fun e => e)
  have c64 := cx4.keep (x3.old (by rw [hHB]; exact (Ext.push _).old (x2.old (x1.old k6)))) (fun e => by have := n2 _ e; omega) (fun e => e)
  have c74 := cx4.keep (x3.old (by rw [hHB]; exact (Ext.push _).old (x2.old (x1.old k7)))) (fun e => by have := n2 _ e; omega) (fun e => e)
  have c84 := cx4.keep (x3.old (by rw [hHB]; exact (Ext.push _).old (x2.old (x1.old k8)))) (fun e => by have := n2 _ e; omega) (fun e => e)
  have nF4 : ∀ g, g < H3.size → ¬ F g → ¬ F4 g := fun g h1 h2 => cx4.not h1 h2
  have o6 : ¬ F4 H.size := nF4 _ (by omega) (fun e => by have := n2 _ e; omega)
  have o7 : ¬ F4 (H.size + 1) := nF4 _ (by omega) (fun e => by have := n2 _ e; omega)
  have o8 : ¬ F4 (H.size + 1 + 1) := nF4 _ (by omega) (fun e => by have := n2 _ e; omega)
  have oB : ¬ F4 H2.size := nF4 _ (by omega) (fun e => by have := lF _ e; omega)
  obtain ⟨S, hS⟩ : ∃ S, S = doneS (freshS 1048576) nmF f (hd.take 1024) (clipL l) true := ⟨_, rfl⟩
  have hdat : S.dat f = rowB (fileR (hd.take 1024) (clipL l)) := by rw [hS]; exact setF_same _ _ _
  rw [← hS] at st4 hnow
  clear hS hu3 hv3 cx4 N3 f3 t3 kB3 qB3 x3 x03
  obtain ⟨hd', hhd⟩ : ∃ z, z = hd.take 1024 := ⟨_, rfl⟩
  obtain ⟨l', hll⟩ : ∃ z, z = clipL l := ⟨_, rfl⟩
  rw [← hhd] at hdat bh lh lh2
  rw [← hll] at hv4 hdat cl1 cl2 cl3
  obtain ⟨wa, wc, rfl⟩ := hv4.form
  have qB4 : hget H4 H2.size 0 = some (ptrOf b) := hget_cells cB4
  simp only [ptrOf] at qB4
  simp only [go_sem, ↓reduceIte, Nat.reduceEqDiff, Nat.reduceLeDiff, Nat.reduceAdd, Nat.reduceMul, Nat.reduceSub, Nat.reduceBEq, Nat.reduceGT, Nat.reduceLT, Int.reduceLE, Int.reduceLT, Int.reduceNeg, reduceCtorEq, ptrOf, qB4]
  refine FunI.by (F28 b nmF H4) ?_
  rintro _ _ ⟨rfl, rfl⟩
  have x5 : Ext H4 ((H4.push (.cells #[ptrOf b] 25)).push (.cells #[.string nmF] 9)) := Upto.push (Ext.push _) (by simp) _
  have kc1 : ((H4.push (.cells #[ptrOf b] 25)).push (.cells #[.string nmF] 9))[H4.size]? = some (.cells #[ptrOf b] 25) := by rw [push_old (by simp)]; exact push_new
  have kc2 : ((H4.push (.cells #[ptrOf b] 25)).push (.cells #[.string nmF] 9))[H4.size + 1]? = some (.cells #[.string nmF] 9) := by
    have := push_new (H := H4.push (.cells #[ptrOf b] 25)) (x := .cells #[.string nmF] 9)
    simpa using this
  obtain ⟨H5, hH5⟩ : ∃ H5, H5 = ((H4.push (.cells #[ptrOf b] 25)).push (.cells #[.string nmF] 9)) := ⟨_, rfl⟩
  have hs5 : H5.size = H4.size + 2 := by rw [hH5]; simp
  rw [← hH5] at x5 kc1 kc2 ⊢
  have c65 := x5.old c64
  have c75 := x5.old c74
  have c85 := x5.old c84
  have cB5 := x5.old cB4
  have st5 := st4.fs.ext x5
  have N5 := N4.ext x5
  have hv5 := hv4.keep (X := fun _ => False) x5.chx (fun _ e => e.elim) (by omega)
  have lF5 : ∀ g, F4 g → g < H4.size := fun g hg => FsH.lt st4.fs hg
  have hop := open_rdK st4.pc hnow hdat lh
  by_cases hl0 : l'.length = 0
  · have q0 : ((l'.length : Nat) : Int) = 0 := by omega
    simp only [go_sem, ↓reduceIte, Nat.reduceEqDiff, Nat.reduceLeDiff, Nat.reduceAdd, Nat.reduceMul, Nat.reduceSub, Nat.reduceBEq, Nat.reduceGT, Nat.reduceLT, Int.reduceLE, Int.reduceLT, Int.reduceNeg, reduceCtorEq, ptrOf, q0]
    refine RangeRI.by mixed (gf := 53) (lb := #[ptrOf H4.size, ptrOf (H4.size + 1)]) (by simp only [go_sem, ↓reduceIte, Nat.reduceEqDiff, Nat.reduceLeDiff, Nat.reduceAdd, Nat.reduceMul, Nat.reduceSub, Nat.reduceBEq, Nat.reduceGT, Nat.reduceLT, Int.reduceLE, Int.reduceLT, Int.reduceNeg, reduceCtorEq, ptrOf]) (by simp only [go_sem, ↓reduceIte, Nat.reduceEqDiff, Nat.reduceLeDiff, Nat.reduceAdd, Nat.reduceMul, Nat.reduceSub, Nat.reduceBEq, Nat.reduceGT, Nat.reduceLT, Int.reduceLE, Int.reduceLT, Int.reduceNeg, reduceCtorEq]) (by decide) ?_
    intro r hy
    show Fun _ _ #[_, _, _] _ _
    have x56 : Ext H5 ((H5.push (.deferred (some []))).push (.loop r)) := Upto.push (Ext.push _) (by simp) _
    have kD : ((H5.push (.deferred (some []))).push (.loop r))[H5.size]? = some (.deferred (some [])) := by rw [push_old (by simp)]; exact push_new
    have kl : ((H5.push (.deferred (some []))).push (.loop r))[H5.size + 1]? = some (.loop r) := by
      have := push_new (H := H5.push (.deferred (some []))) (x := .loop r)
      simpa using this
    have s6 : ((H5.push (.deferred (some []))).push (.loop r)).size = H5.size + 2 := by simp
    obtain ⟨H6, hH6⟩ : ∃ H6, H6 = ((H5.push (.deferred (some []))).push (.loop r)) := ⟨_, rfl⟩
    rw [← hH6] at x56 kD kl s6 ⊢
    clear hH6
    have he := rdK_end st4.pc hnow hdat (l := l')
    rw [hl0] at he
    obtain ⟨f6, t6⟩ := (N5.ext x56).stg0 ht
    refine (F53 (σ := Unit) (S := fun _ => S) (Fp := fun _ => F4) (N := fun _ g => g < H6.size) (J := fun _ Hh => Ext H6 Hh) (R := fun _ x => x = rdK nmF hd' l' 0) (E := fun _ => True) (b := b) (l := H5.size + 1) (n := nmF) () ?_ ?_ ?_ ?_ (Upto.refl _ _) ?_ ?_ (x56.old kc1) (x56.old kc2)).mono ?_
    · intro _ Hh hx
      exact ⟨(st5.ext x56).ext hx, st4.pc.ok, t6.ext hx, fun g hg => by have := lF5 g hg; omega, fun g hg => by have := hx.size; omega⟩
    · intro _ Hh Hh' hx hs hk
      exact ⟨Nat.le_trans hx.size hs, fun g hg => (hk g hg).trans (hx.get g hg)⟩
    · intro _ _ _ _; trivial
    · rintro _ x Hh u _ rfl _ c2 _ _
      rw [he.1] at c2; cases c2
    · intro _; rw [hop]
    · intro h; rw [hop] at h; exact absurd rfl h
    · rintro _ H7 ⟨_, x67, _⟩
      refine .inl ⟨x67.old kl, ?_⟩
      have d8 := x67.old (x56.old c85)
      have dD := x67.old kD
      have e8 : (hset H7 (H5.size + 1) (.loop { r with state := .exhausted }))[H.size + 1 + 1]? = some (.cells #[.bool false] 4) := by rw [hset_other (by omega)]; exact d8
      simp only [go_sem, ↓reduceIte, Nat.reduceEqDiff, Nat.reduceLeDiff, Nat.reduceAdd, Nat.reduceMul, Nat.reduceSub, Nat.reduceBEq, Nat.reduceGT, Nat.reduceLT, Int.reduceLE, Int.reduceLT, Int.reduceNeg, reduceCtorEq, Array.size_push]
      refine ⟨rfl, hcan_of e8 (by simp), ?_⟩
      rw [doneR_cons]
      simp only [go_sem, ↓reduceIte, Nat.reduceEqDiff, Nat.reduceLeDiff, Nat.reduceAdd, Nat.reduceMul, Nat.reduceSub, Nat.reduceBEq, Nat.reduceGT, Nat.reduceLT, Int.reduceLE, Int.reduceLT, Int.reduceNeg, reduceCtorEq]
      refine ⟨?_, load1 ty4 rfl (a := .bool true) ?_ ?_⟩
      · simp (disch := omega) only [hset_other, hput_other, dD]
      · rw [hset_other (by omega), hput_same e8]; rfl
      · have xx7 := (N5.ext x56).ext x67
        refine ⟨rfl, ⟨?_, fun g hg => ?_⟩⟩
        · simp only [hset_size, hput_size]; exact xx7.1.size
        · simp (disch := omega) only [hset_other, hput_other]
          exact xx7.1.get g hg
  · have q0 : ¬ ((l'.length : Nat) : Int) = 0 := by omega
    have q6 : hget H5 H.size 0 = some (.int .i64 at') := hget_cells c65
    simp only [go_sem, ↓reduceIte, Nat.reduceEqDiff, Nat.reduceLeDiff, Nat.reduceAdd, Nat.reduceMul, Nat.reduceSub, Nat.reduceBEq, Nat.reduceGT, Nat.reduceLT, Int.reduceLE, Int.reduceLT, Int.reduceNeg, reduceCtorEq, ptrOf, q0, q6]
    refine FunI.by (F21 at' l'.length (by omega) (by omega) _) ?_
    rintro _ _ ⟨rfl, rfl⟩
    obtain ⟨a, ha9⟩ : ∃ a, a = pickN at' l'.length := ⟨_, rfl⟩
    have hal : a < l'.length := by rw [ha9]; exact (pick_nums at' l'.length (by omega) (by omega)).1
    rw [← ha9]
    have hr1 := rowI_len lh (fun x hx => cl2 x hx)
    have rlen : ∀ i, (rowB (rowI hd' (l'.take i))).length ≤ 50000 := fun i => by
      have := rowI_len (hd := hd') (l := l'.take i) lh fun x hx => cl2 x (List.mem_of_mem_take hx)
      have h9 : (l'.take i).length ≤ 40 := by simp; omega
      have : ((l'.take i).length + 1) * 1036 ≤ 41 * 1036 := Nat.mul_le_mul_right _ (by omega)
      omega
    have r0 : (rowB (rowI hd' (l'.take 0))).length = 12 + hd'.length := by
      unfold rowI
      rw [List.take_zero, List.map_nil, rowB_cons, List.length_append, encL_len]
      simp [rowB]
    have w58 : IntKind.i64.wrap (24 + ((min hd.length 1024 : Nat) : Int)) = 24 + ((min hd.length 1024 : Nat) : Int) := w64_id (by omega) (by omega)
    obtain ⟨P0, hP0⟩ : ∃ z : Int, z = (((rowB (rowI hd' (l'.take 0))).length : Nat) : Int) := ⟨_, rfl⟩
    have w59 : IntKind.i64.wrap (24 + ((min hd.length 1024 : Nat) : Int) - 12) = P0 := by rw [hP0, r0, w64_id (by omega) (by omega)]; omega
    -- the cells behind region 14
    have d6 : (hput H5 H.size 0 [.int .i64 a])[H.size]? = some (.cells #[.int .i64 a] 3) := by rw [hput_same c65]; rfl
    have dx : ∀ g, g ≠ H.size → (hput H5 H.size 0 [.int .i64 a])[g]? = H5[g]? := fun g hg => hput_other _ _ _ _ hg
    have ds : (hput H5 H.size 0 [.int .i64 a]).size = H5.size := hput_size _ _ _ _
    have fs6 : FsH (hput H5 H.size 0 [.int .i64 a]) F4 b S := st5.put o6
    obtain ⟨H6, hH6⟩ : ∃ H6, H6 = hput H5 H.size 0 [.int .i64 a] := ⟨_, rfl⟩
    rw [← hH6] at d6 dx ds fs6
    have x67 : Ext H6 (H6.push (.cells #[.int .i64 P0] 3)) := Ext.push _
    have k12 : (H6.push (.cells #[.int .i64 P0] 3))[H5.size]? = some (.cells #[.int .i64 P0] 3) := by rw [← ds]; exact push_new
    have s7 : (H6.push (.cells #[.int .i64 P0] 3)).size = H5.size + 1 := by rw [Array.size_push, ds]
    obtain ⟨H7, hH7⟩ : ∃ H7, H7 = (H6.push (.cells #[.int .i64 P0] 3)) := ⟨_, rfl⟩
    rw [← hH7] at x67 k12 s7
    simp only [go_sem, ↓reduceIte, Nat.reduceEqDiff, Nat.reduceLeDiff, Nat.reduceAdd, Nat.reduceMul, Nat.reduceSub, Nat.reduceBEq, Nat.reduceGT, Nat.reduceLT, Int.reduceLE, Int.reduceLT, Int.reduceNeg, reduceCtorEq, ptrOf, em, w58, w59, ← hH6, hput_push1, ← hH7]
    refine ⟨rfl, hcan_of c65 (by simp), rfl, hcan_of push_new (by simp), ?_⟩
    refine LoopRI.by mixed (fun ρ H' => ∃ i : Nat, ρ 1 = .slice wa l'.length wc ∧ ρ 6 = ptrOf H.size ∧ ρ 7 = ptrOf (H.size + 1) ∧ ρ 8 = ptrOf (H.size + 1 + 1) ∧ ρ 10 = ptrOf H2.size ∧ ρ 11 = .func (.func 53) #[] #[ptrOf H4.size, ptrOf (H4.size + 1)] ∧ ρ 12 = ptrOf H5.size ∧ ρ 13 = .int .i64 i ∧ i ≤ a + 1 ∧
      H'[H5.size]? = some (.cells #[.int .i64 (((rowB (rowI hd' (l'.take i))).length : Nat) : Int)] 3) ∧ (∀ g, g ≠ H5.size → H'[g]? = H7[g]?) ∧ H'.size = H7.size) (fun ρ _ => a + 1 - (iof (ρ 13)).toNat) ?_ ?_
    · refine ⟨0, by simp only [go_sem, ↓reduceIte, Nat.reduceEqDiff, Nat.reduceLeDiff, Nat.reduceAdd, Nat.reduceMul, Nat.reduceSub, Nat.reduceBEq, Nat.reduceGT, Nat.reduceLT, Int.reduceLE, Int.reduceLT, Int.reduceNeg, reduceCtorEq], by simp only [go_sem, ↓reduceIte, Nat.reduceEqDiff, Nat.reduceLeDiff, Nat.reduceAdd, Nat.reduceMul, Nat.reduceSub, Nat.reduceBEq, Nat.reduceGT, Nat.reduceLT, Int.reduceLE, Int.reduceLT, Int.reduceNeg, reduceCtorEq, ptrOf], by simp only [go_sem, ↓reduceIte, Nat.reduceEqDiff, Nat.reduceLeDiff, Nat.reduceAdd, Nat.reduceMul, Nat.reduceSub, Nat.reduceBEq, Nat.reduceGT, Nat.reduceLT, Int.reduceLE, Int.reduceLT, Int.reduceNeg, reduceCtorEq, Array.size_push, ptrOf], by simp only [go_sem, ↓reduceIte, Nat.reduceEqDiff, Nat.reduceLeDiff, Nat.reduceAdd, Nat.reduceMul, Nat.reduceSub, Nat.reduceBEq, Nat.reduceGT, Nat.reduceLT, Int.reduceLE, Int.reduceLT, Int.reduceNeg, reduceCtorEq, Array.size_push, ptrOf], by simp only [go_sem, ↓reduceIte, Nat.reduceEqDiff, Nat.reduceLeDiff, Nat.reduceAdd, Nat.reduceMul, Nat.reduceSub, Nat.reduceBEq, Nat.reduceGT, Nat.reduceLT, Int.reduceLE, Int.reduceLT, Int.reduceNeg, reduceCtorEq, ptrOf], by simp only [go_sem, ↓reduceIte, Nat.reduceEqDiff, Nat.reduceLeDiff, Nat.reduceAdd, Nat.reduceMul, Nat.reduceSub, Nat.reduceBEq, Nat.reduceGT, Nat.reduceLT, Int.reduceLE, Int.reduceLT, Int.reduceNeg, reduceCtorEq, ptrOf], by simp only [go_sem, ↓reduceIte, Nat.reduceEqDiff, Nat.reduceLeDiff, Nat.reduceAdd, Nat.reduceMul, Nat.reduceSub, Nat.reduceBEq, Nat.reduceGT, Nat.reduceLT, Int.reduceLE, Int.reduceLT, Int.reduceNeg, reduceCtorEq, ds, ptrOf], by simp only [go_sem, ↓reduceIte, Nat.reduceEqDiff, Nat.reduceLeDiff, Nat.reduceAdd, Nat.reduceMul, Nat.reduceSub, Nat.reduceBEq, Nat.reduceGT, Nat.reduceLT, Int.reduceLE, Int.reduceLT, Int.reduceNeg, reduceCtorEq] <;> rfl, by omega, by rw [← hP0]; exact k12, fun _ _ => rfl, rfl⟩
    rintro ρ H8 ⟨i, e1, e6, e7, e8, e10, e11, e12, e13, hi, k12', x8, s8⟩
    have c68 : H8[H.size]? = some (.cells #[.int .i64 a] 3) := by rw [x8 _ (by omega)]; exact x67.old d6
    have q6 : hget H8 H.size 0 = some (.int .i64 a) := hget_cells c68
    have q12 : hget H8 H5.size 0 = _ := hget_cells k12'
    simp only [ptrOf] at e6 e7 e8 e10 e11 e12
    have lists : ∀ {Hh : Heap}, Ext H Hh → (∀ g, HB.size ≤ g → g < H3.size → Hh[g]? = H4[g]?) → Lists Hh 22 5 (.slice wa l'.length wc) l' := fun {Hh} hx hk =>
      ⟨vs, (ow4.keep fun g hg => hk g (ow4.blk hg).1 (ow.blk hg).2.1).sl, by rw [hll]; exact ha.mono fun _ _ q => q.ext hx⟩
    have xH8 : Ext H H8 := ⟨by rw [s8, s7]; have := N5.1.size; omega, fun g hg => by rw [x8 _ (by omega), x67.get g (by omega), dx _ (by omega)]; exact N5.1.get g hg⟩
    have o84 : ∀ g, HB.size ≤ g → g < H3.size → H8[g]? = H4[g]? := fun g h1 h2 => by rw [x8 _ (by omega), x67.get g (by omega), dx _ (by omega), x5.get g (by omega)]
    have L8 := lists xH8 o84
    by_cases hia : i ≤ a
    · have c1 : (i : Int) ≤ (a : Int) := by omega
      have hil : i < l'.length := by omega
      have c2 : (i : Int) < (l'.length : Int) := by omega
      have c3 : (0 : Int) ≤ (i : Int) := by omega
      obtain ⟨gb, go, rfl⟩ := L8.at hil
      obtain ⟨w1, g1, hw1⟩ := L8.get hil
      obtain ⟨w1a, w1c, rfl⟩ := hw1.form
      have hpl := cl2 _ (mem_getD hil [])
      have hri := rlen i
      have e9 : (rowB (rowI hd' (l'.take (i + 1)))).length = (rowB (rowI hd' (l'.take i))).length + (12 + (l'.getD i []).length) := by rw [take_getD hil, rowI_snoc, rowB_snoc, List.length_append, encL_len]
      have v1 : IntKind.i64.wrap ((((rowB (rowI hd' (l'.take i))).length : Nat) : Int) + 12) = (((rowB (rowI hd' (l'.take i))).length : Nat) : Int) + 12 := w64_id (by omega) (by omega)
      have v2 : IntKind.i64.wrap ((((rowB (rowI hd' (l'.take i))).length : Nat) : Int) + 12 + ((l'.getD i []).length : Int)) = (((rowB (rowI hd' (l'.take (i + 1)))).length : Nat) : Int) := by rw [e9, w64_id (by omega) (by omega)]; omega
      have v3 : IntKind.i64.wrap ((i : Int) + 1) = ((i + 1 : Nat) : Int) := by rw [w64_id (by omega) (by omega)]; omega
      simp only [c6_L2, go_sem, ↓reduceIte, Nat.reduceEqDiff, Nat.reduceLeDiff, Nat.reduceAdd, Nat.reduceMul, Nat.reduceSub, Nat.reduceBEq, Nat.reduceGT, Nat.reduceLT, Int.reduceLE, Int.reduceLT, Int.reduceNeg, reduceCtorEq, e1, e6, e7, e8, e10, e11, e12, e13, q6, q12, c1, c2, c3, Int.toNat_natCast, g1, v1, v2, v3]
      refine ⟨rfl, hcan_of k12' (by simp), Hold.mk ⟨i + 1, by simp only [go_sem, ↓reduceIte, Nat.reduceEqDiff, Nat.reduceLeDiff, Nat.reduceAdd, Nat.reduceMul, Nat.reduceSub, Nat.reduceBEq, Nat.reduceGT, Nat.reduceLT, Int.reduceLE, Int.reduceLT, Int.reduceNeg, reduceCtorEq, e1], by simp only [go_sem, ↓reduceIte, Nat.reduceEqDiff, Nat.reduceLeDiff, Nat.reduceAdd, Nat.reduceMul, Nat.reduceSub, Nat.reduceBEq, Nat.reduceGT, Nat.reduceLT, Int.reduceLE, Int.reduceLT, Int.reduceNeg, reduceCtorEq, e6, ptrOf], by simp only [go_sem, ↓reduceIte, Nat.reduceEqDiff, Nat.reduceLeDiff, Nat.reduceAdd, Nat.reduceMul, Nat.reduceSub, Nat.reduceBEq, Nat.reduceGT, Nat.reduceLT, Int.reduceLE, Int.reduceLT, Int.reduceNeg, reduceCtorEq, e7, ptrOf], by simp only [go_sem, ↓reduceIte, Nat.reduceEqDiff, Nat.reduceLeDiff, Nat.reduceAdd, Nat.reduceMul, Nat.reduceSub, Nat.reduceBEq, Nat.reduceGT, Nat.reduceLT, Int.reduceLE, Int.reduceLT, Int.reduceNeg, reduceCtorEq, e8, ptrOf], by simp only [go_sem, ↓reduceIte, Nat.reduceEqDiff, Nat.reduceLeDiff, Nat.reduceAdd, Nat.reduceMul, Nat.reduceSub, Nat.reduceBEq, Nat.reduceGT, Nat.reduceLT, Int.reduceLE, Int.reduceLT, Int.reduceNeg, reduceCtorEq, e10, ptrOf], by simp only [go_sem, ↓reduceIte, Nat.reduceEqDiff, Nat.reduceLeDiff, Nat.reduceAdd, Nat.reduceMul, Nat.reduceSub, Nat.reduceBEq, Nat.reduceGT, Nat.reduceLT, Int.reduceLE, Int.reduceLT, Int.reduceNeg, reduceCtorEq, e11, ptrOf], by simp only [go_sem, ↓reduceIte, Nat.reduceEqDiff, Nat.reduceLeDiff, Nat.reduceAdd, Nat.reduceMul, Nat.reduceSub, Nat.reduceBEq, Nat.reduceGT, Nat.reduceLT, Int.reduceLE, Int.reduceLT, Int.reduceNeg, reduceCtorEq, e12, ptrOf], by simp only [go_sem, ↓reduceIte, Nat.reduceEqDiff, Nat.reduceLeDiff, Nat.reduceAdd, Nat.reduceMul, Nat.reduceSub, Nat.reduceBEq, Nat.reduceGT, Nat.reduceLT, Int.reduceLE, Int.reduceLT, Int.reduceNeg, reduceCtorEq], by omega, by rw [hput_same k12']; rfl, fun g hg => by rw [hput_other _ _ _ _ hg]; exact x8 g hg, by rw [hput_size]; exact s8⟩, by omega⟩
    · have c1 : ¬ (i : Int) ≤ (a : Int) := by omega
      have ei : i = a + 1 := by omega
      subst ei
      have c78 : H8[H.size + 1]? = some (.cells #[.int .i64 xx] 3) := by rw [x8 _ (by omega), x67.get _ (by omega), dx _ (by omega)]; exact c75
      have q7 : hget H8 (H.size + 1) 0 = some (.int .i64 xx) := hget_cells c78
      simp only [c6_L2, go_sem, ↓reduceIte, Nat.reduceEqDiff, Nat.reduceLeDiff, Nat.reduceAdd, Nat.reduceMul, Nat.reduceSub, Nat.reduceBEq, Nat.reduceGT, Nat.reduceLT, Int.reduceLE, Int.reduceLT, Int.reduceNeg, reduceCtorEq, e1, e6, e7, e8, e10, e11, e12, e13, q6, c1, q7]
      refine FunI.by (F21 xx 255 (by omega) (by omega) _) ?_
      rintro _ _ ⟨rfl, rfl⟩
      obtain ⟨X, hX⟩ : ∃ X, X = 1 + pickN xx 255 := ⟨_, rfl⟩
      have hXb := (pick_nums xx 255 (by omega) (by omega)).1
      have wX : IntKind.i64.wrap (1 + ((pickN xx 255 : Nat) : Int)) = ((X : Nat) : Int) := by rw [hX, w64_id (by omega) (by omega)]; omega
      simp only [go_sem, ↓reduceIte, Nat.reduceEqDiff, Nat.reduceLeDiff, Nat.reduceAdd, Nat.reduceMul, Nat.reduceSub, Nat.reduceBEq, Nat.reduceGT, Nat.reduceLT, Int.reduceLE, Int.reduceLT, Int.reduceNeg, reduceCtorEq, e1, e6, e7, e8, e10, e11, e12, wX]
      refine ⟨rfl, hcan_of c78 (by simp), ?_⟩
      have e78 : (hput H8 (H.size + 1) 0 [.int .i64 X])[H.size + 1]? = some (.cells #[.int .i64 X] 3) := by rw [hput_same c78]; rfl
      have x78 : ∀ g, g ≠ H.size + 1 → (hput H8 (H.size + 1) 0 [.int .i64 X])[g]? = H8[g]? := fun g hg => hput_other _ _ _ _ hg
      have s78 : (hput H8 (H.size + 1) 0 [.int .i64 X]).size = H8.size := hput_size _ _ _ _
      have s78' := s78
      have fs8 : FsH (hput H8 (H.size + 1) 0 [.int .i64 X]) F4 b S := by
        obtain ⟨_, _, _, _, _, hp⟩ := fs6.ext x67
        have h8 : FsH H8 F4 b S := ⟨_, _, _, _, _, hp.keep (by omega) fun g hg => x8 g (by have := lF5 g hg; omega)⟩
        exact h8.put o7
      have k14 : ((hput H8 (H.size + 1) 0 [.int .i64 X]).push (.cells #[.slice none 0 0] 23))[H8.size]? = some (.cells #[.slice none 0 0] 23) := by rw [← s78]; exact push_new
      have x89 : Ext (hput H8 (H.size + 1) 0 [.int .i64 X]) ((hput H8 (H.size + 1) 0 [.int .i64 X]).push (.cells #[.slice none 0 0] 23)) := Ext.push _
      have s89 : ((hput H8 (H.size + 1) 0 [.int .i64 X]).push (.cells #[.slice none 0 0] 23)).size = H8.size + 1 := by rw [Array.size_push, s78]
      rw [s78]
      obtain ⟨H9, hH9⟩ : ∃ H9, H9 = (hput H8 (H.size + 1) 0 [.int .i64 X]).push (.cells #[.slice none 0 0] 23) := ⟨_, rfl⟩
      rw [← hH9] at k14 x89 s89 ⊢
      clear hH9
      have fs9 := fs8.ext x89
      -- what stands still
      have st : ∀ g, g < H8.size → g ≠ H.size + 1 → H9[g]? = H8[g]? := fun g h1 h2 => by rw [x89.get g (by omega), x78 g h2]
      have c69 : H9[H.size]? = some (.cells #[.int .i64 a] 3) := by rw [st _ (by omega) (by omega)]; exact c68
      have c79 : H9[H.size + 1]? = some (.cells #[.int .i64 X] 3) := by rw [x89.get _ (by omega)]; exact e78
      have c89 : H9[H.size + 1 + 1]? = some (.cells #[.bool false] 4) := by rw [st _ (by omega) (by omega), x8 _ (by omega), x67.get _ (by omega), dx _ (by omega)]; exact c85
      have cB9 : H9[H2.size]? = some (.cells #[ptrOf b] 25) := by rw [st _ (by omega) (by omega), x8 _ (by omega), x67.get _ (by omega), dx _ (by omega)]; exact cB5
      have cP9 : H9[H5.size]? = some (.cells #[.int .i64 (((rowB (rowI hd' (l'.take (a + 1)))).length : Nat) : Int)] 3) := by rw [st _ (by omega) (by omega)]; exact k12'
      have kc19 : H9[H4.size]? = some (.cells #[ptrOf b] 25) := by rw [st _ (by omega) (by omega), x8 _ (by omega), x67.get _ (by omega), dx _ (by omega)]; exact kc1
      have kc29 : H9[H4.size + 1]? = some (.cells #[.string nmF] 9) := by rw [st _ (by omega) (by omega), x8 _ (by omega), x67.get _ (by omega), dx _ (by omega)]; exact kc2
      have xH9 : Ext H H9 := ⟨by have := xH8.size; omega, fun g hg => by rw [st g (by have := xH8.size; omega) (by omega)]; exact xH8.get g hg⟩
      have o94 : ∀ g, HB.size ≤ g → g < H3.size → H9[g]? = H4[g]? := fun g h1 h2 => by rw [st g (by omega) (by omega)]; exact o84 g h1 h2
      have nFo : ∀ g, g < H.size → ¬ F4 g := fun g hg e => by have := N4.2 g e; omega
      have nFl : ∀ g, HB.size ≤ g → g < H3.size → ¬ F4 g := fun g h1 h2 => nF4 g h2 (fun e => by have := lF g e; omega)
      have nFh : ∀ g, H4.size ≤ g → ¬ F4 g := fun g hg e => by have := lF5 g e; omega
      have t9 : CrcTab H9 := ht.ext xH9
      have h0lt : 0 < H.size := by obtain ⟨t, fr, ht⟩ := ht; exact (Array.getElem?_eq_some_iff.1 ht).1
      have sz8 : H8.size = H5.size + 1 := by rw [s8, s7]
      clear fs8 k12' q12 x8 s8 c68 c78 q6 q7 x78 e78 s78 xH8 o84 L8 x89
      -- the file, turned
      obtain ⟨P, hP⟩ : ∃ P, P = (rowB (rowI hd' (l'.take (a + 1)))).length := ⟨_, rfl⟩
      rw [← hP] at cP9
      have hPl : P + 12 ≤ (rowB (fileR hd' l')).length := by
        have := congrArg List.length (file_split hd' l' (a + 1))
        rw [List.length_append, rowB_snoc, List.length_append, encL_len] at this
        omega
      have hP5 : P ≤ 50000 := by rw [hP]; exact rlen _
      have fm := file_mem ⟨lh, bh⟩ (fun p hp => ⟨cl2 p hp, cl3 p hp⟩)
      have bR : Byt (rowB (fileR hd' l')) := rowB_byt fun g hg => (fm g hg).2.2
      obtain ⟨rb1, _⟩ := rotD_bits bR (i := P + 2) (by omega) (x := X) (by omega)
      have hfh := st4.pc.ok.nowH _ _ hnow
      have hrot : rotS S nmF ((P + 2 : Nat) : Int) (X : Int) = (datS S f (rotD (rowB (fileR hd' l')) (P + 2) X), 0) := by
        rw [rotS_calm nmF_nm hnow (i := P + 2) (by rw [hdat]; omega) (x := X) (by omega) (by omega), hdat]; rfl
      obtain ⟨S1, hS1⟩ : ∃ S1, S1 = datS S f (rotD (rowB (fileR hd' l')) (P + 2) X) := ⟨_, rfl⟩
      have pc1 : Peace S1 := by rw [hS1]; exact datS_peace st4.pc hfh rb1 (by rw [rotD_len, hdat])
      have now1 : S1.now nmF = some f := by rw [hS1]; exact hnow
      have dat1 : S1.dat f = rotD (rowB (fileR hd' l')) (P + 2) X := by rw [hS1]; exact setF_same _ _ _
      have held1 : S1.held = S.held := by rw [hS1]; rfl
      rw [← hS1] at hrot
      obtain ⟨Sk, hSk⟩ : ∃ Sk : Nat → St, Sk = fun k => if k ≤ a then S else S1 := ⟨_, rfl⟩
      have Sk0 : ∀ k, k ≤ a → Sk k = S := fun k hk => by rw [hSk]; exact if_pos hk
      have Sk1 : Sk (a + 1) = S1 := by rw [hSk]; exact if_neg (by omega)
      have nx0 : ∀ k, k ≤ a → nextR (Sk k) (rdK nmF hd' l' k) = (rdK nmF hd' l' (k + 1), l'.getD k [], true, 0) := fun k hk => by
        obtain ⟨rest, hr⟩ := rdK_here (hd := hd') (l := l') (k := k) (by omega)
        rw [Sk0 k hk]
        exact rdK_next st4.pc hnow cl2 (by omega) (rest := rest) (by rw [hdat]; exact hr)
      have nx1 : (nextR (Sk (a + 1)) (rdK nmF hd' l' (a + 1))).2.2.2 ≠ 0 := by
        rw [Sk1]
        exact rdK_rot pc1 now1 ⟨lh, bh⟩ (fun p hp => ⟨cl2 p hp, cl3 p hp⟩) (by omega) (x := X) (by omega) (by omega) (by rw [dat1, hP])
      have okS : ∀ k, Ok (Sk k) := fun k => by
        rw [hSk]
        simp only
        split
        · exact st4.pc.ok
        · exact pc1.ok
      clear hSk
      have wP2 : IntKind.i64.wrap ((P : Int) + 2) = ((P + 2 : Nat) : Int) := by rw [w64_id (by omega) (by omega)]; omega
      refine RangeRI.by mixed (gf := 53) (lb := #[ptrOf H4.size, ptrOf (H4.size + 1)]) (by simp only [go_sem, ↓reduceIte, Nat.reduceEqDiff, Nat.reduceLeDiff, Nat.reduceAdd, Nat.reduceMul, Nat.reduceSub, Nat.reduceBEq, Nat.reduceGT, Nat.reduceLT, Int.reduceLE, Int.reduceLT, Int.reduceNeg, reduceCtorEq, ptrOf, e11]) (by simp only [go_sem, ↓reduceIte, Nat.reduceEqDiff, Nat.reduceLeDiff, Nat.reduceAdd, Nat.reduceMul, Nat.reduceSub, Nat.reduceBEq, Nat.reduceGT, Nat.reduceLT, Int.reduceLE, Int.reduceLT, Int.reduceNeg, reduceCtorEq]) (by decide) ?_
      intro r hy
      show Fun _ _ #[_, _, _] _ _
      have x9A : Ext H9 ((H9.push (.deferred (some []))).push (.loop r)) := Upto.push (Ext.push _) (by simp) _
      have kD : ((H9.push (.deferred (some []))).push (.loop r))[H9.size]? = some (.deferred (some [])) := by rw [push_old (by simp)]; exact push_new
      have kl : ((H9.push (.deferred (some []))).push (.loop r))[H9.size + 1]? = some (.loop r) := by
        have := push_new (H := H9.push (.deferred (some []))) (x := .loop r)
        simpa using this
      have sA9 : ((H9.push (.deferred (some []))).push (.loop r)).size = H9.size + 2 := by simp
      obtain ⟨HR, hHR⟩ : ∃ HR, HR = ((H9.push (.deferred (some []))).push (.loop r)) := ⟨_, rfl⟩
      rw [← hHR] at x9A kD kl sA9 ⊢
      clear hHR
      have sH9 := xH9.size
      refine (F53 (σ := Nat × (Nat → Prop) × (Nat → Prop) × Value) (S := fun p => Sk p.1) (Fp := fun p => p.2.1) (N := fun p => p.2.2.1) (J := fun p Hh => JZ HR F4 b H8.size (H9.size + 1) l' (Sk p.1) p.1 p.2.1 p.2.2.1 p.2.2.2 (.loop r) Hh)
        (R := fun p x => x = rdK nmF hd' l' p.1 ∧ p.1 ≤ a + 1) (E := fun p => p.1 = a + 1) (b := b) (l := H9.size + 1) (n := nmF) (0, F4, fun g => g < HR.size, .slice none 0 0) ?_ ?_ ?_ ?_ ?_ ?_ ?_ (x9A.old kc19) (x9A.old kc29)).mono ?_
      · rintro ⟨k, F', N', v'⟩ Hh j
        simp only at j ⊢
        exact ⟨j.fs, okS k, j.crc (t9.ext x9A) (nFo 0 h0lt) (by omega) (by omega), j.nf, j.nl⟩
      · rintro ⟨k, F', N', v'⟩ Hh Hh' j hs hk
        exact j.stab hs hk
      · rintro ⟨k, F', N', v'⟩ x ⟨rfl, hk⟩ he
        simp only at hk he ⊢
        by_cases hka : k ≤ a
        · rw [nx0 k hka] at he
          rcases he with he | he
          · exact absurd rfl he
          · cases he
        · omega
      · rintro ⟨k, F', N', v'⟩ x Hh u j ⟨rfl, hk⟩ c1 c2 ou hun
        simp only at j hk c1 c2 ou hun ⊢
        have hka : k ≤ a := by
          rcases Nat.lt_or_ge a k with hh | hh
          · have : k = a + 1 := by omega
            subst this
            exact absurd c1 nx1
          · exact hh
        rw [nx0 k hka] at ou ⊢
        simp only at ou ⊢
        refine hy j.lp rfl ?_
        obtain ⟨jb, bsz, bx⟩ := j.set (.loop { r with state := .busy })
        have oub : V.Own (hset Hh (H9.size + 1) (.loop { r with state := .busy })) 0 5 1 u ((l'.getD k []).map (.int .u8)) := ou.keep fun g hg => bx g (by rintro rfl; exact hun _ hg (j.nb _ (by omega)))
        obtain ⟨Hb, hHb⟩ : ∃ Hb, Hb = hset Hh (H9.size + 1) (.loop { r with state := .busy }) := ⟨_, rfl⟩
        rw [← hHb] at jb bsz bx oub
        have stl : ∀ g, g < H9.size → g ≠ H8.size → ¬ F4 g → Hb[g]? = H9[g]? := fun g h1 h2 h3 => by rw [jb.old g (by omega) h2 (by omega) h3, x9A.get g h1]
        have q6 : hget Hb H.size 0 = some (.int .i64 a) := hget_cells ((stl _ (by omega) (by omega) o6).trans c69)
        have q7 : hget Hb (H.size + 1) 0 = some (.int .i64 X) := hget_cells ((stl _ (by omega) (by omega) o7).trans c79)
        have qB : hget Hb H2.size 0 = some (ptrOf b) := hget_cells ((stl _ (by omega) (by omega) oB).trans cB9)
        have qP : hget Hb H5.size 0 = some (.int .i64 P) := hget_cells ((stl _ (by omega) (by omega) (nFh _ (by omega))).trans cP9)
        have q14 : hget Hb H8.size 0 = some v' := hget_cells jb.cell
        obtain ⟨va', vc', rfl⟩ := jb.lst.lists.form
        have tk : (l'.take k).length = k := by rw [List.length_take]; omega
        rw [tk] at q14
        obtain ⟨ua', ul', uc', rfl⟩ := ou.sl.form
        simp only [ptrOf] at qB
        rw [tk] at jb
        have fin : ∀ {F2 N2 : Nat → Prop} {v2 : Value} {HX : Heap}, JZ HR F4 b H8.size (H9.size + 1) l' (Sk (k + 1)) (k + 1) F2 N2 v2 (.loop { r with state := .busy }) HX → Hh.size ≤ HX.size → (∀ g, g < Hh.size → ¬ N' g → HX[g]? = Hb[g]?) → (∀ g, N2 g → N' g ∨ Hh.size ≤ g ∨ blk (.slice ua' ul' uc') = some g) →
            ∃ (t : Bool) (a' : Nat × (Nat → Prop) × (Nat → Prop) × Value), Value.bool true = .bool t ∧ JZ HR F4 b H8.size (H9.size + 1) l' (Sk a'.1) a'.1 a'.2.1 a'.2.2.1 a'.2.2.2 (.loop r) (hset HX (H9.size + 1) (.loop r)) ∧ Hh.size ≤ (hset HX (H9.size + 1) (.loop r)).size ∧
              (∀ g, g < Hh.size → ¬ N' g → blk (.slice ua' ul' uc') ≠ some g → (hset HX (H9.size + 1) (.loop r))[g]? = Hh[g]?) ∧ (∀ g, a'.2.2.1 g → N' g ∨ Hh.size ≤ g ∨ blk (.slice ua' ul' uc') = some g) ∧ if t = true then rdK nmF hd' l' (k + 1) = rdK nmF hd' l' a'.1 ∧ a'.1 ≤ a + 1 else a'.1 = a + 1 := fun {F2 N2 v2 HX} j2 z1 z2 z3 => by
          obtain ⟨j3, s3, x3⟩ := j2.set (.loop r)
          refine ⟨true, (k + 1, F2, N2, v2), rfl, j3, by omega, fun g h1 h2 _ => ?_, z3, ?_⟩
          · have : g ≠ H9.size + 1 := by rintro rfl; exact h2 (j.nb _ (by omega))
            rw [x3 g this, z2 g h1 h2, bx g this]
          · rw [if_pos rfl]; exact ⟨rfl, by simp only; omega⟩
        by_cases hkq : k = a
        · subst hkq
          have cka : ((k : Nat) : Int) = ((k : Nat) : Int) := rfl
          simp only [c6_L3, c6_L4, go_sem, ↓reduceIte, Nat.reduceEqDiff, Nat.reduceLeDiff, Nat.reduceAdd, Nat.reduceMul, Nat.reduceSub, Nat.reduceBEq, Nat.reduceGT, Nat.reduceLT, Int.reduceLE, Int.reduceLT, Int.reduceNeg, reduceCtorEq, zipL, Array.toList_zip, List.zip, List.zipWith, ← hHb, e6, e7, e10, e12, s78', q14, q6, qB, qP, wP2, q7]
          have jfs := jb.fs
          rw [Sk0 k hka] at jfs
          obtain ⟨_, _, _, _, _, hPb⟩ := jfs
          refine ⟨j.lp, FunI.by (F29 hPb st4.pc.ok nmF ((P + 2 : Nat) : Int) (X : Int)) ?_⟩
          rw [hrot]
          rintro _ HC ⟨rfl, FC, hC, chC⟩
          simp only at hC
          rw [← Sk1] at hC
          have jc := jb.fsstep hC chC
          have ouc : V.Own HC 0 5 1 (.slice ua' ul' uc') ((l'.getD k []).map (.int .u8)) := oub.keep fun g hg => chC.get g (oub.blk hg).2.1 fun e => hun g hg (jb.nf g e)
          have hunc : ∀ g, blk (.slice ua' ul' uc') = some g → ¬ (N' g ∨ (Hb.size ≤ g ∧ g < HC.size)) := fun g hg e => by
            rcases e with e | e
            · exact hun g hg e
            · have := (oub.blk hg).2.1; omega
          simp only [go_sem, ↓reduceIte, Nat.reduceEqDiff, Nat.reduceLeDiff, Nat.reduceAdd, Nat.reduceMul, Nat.reduceSub, Nat.reduceBEq, Nat.reduceGT, Nat.reduceLT, Int.reduceLE, Int.reduceLT, Int.reduceNeg, reduceCtorEq]
          refine FunI.by (F19 _ _) ?_
          rintro _ _ ⟨rfl, rfl⟩
          have q14' : hget HC H8.size 0 = _ := hget_cells jc.cell
          simp only [go_sem, ↓reduceIte, Nat.reduceEqDiff, Nat.reduceLeDiff, Nat.reduceAdd, Nat.reduceMul, Nat.reduceSub, Nat.reduceBEq, Nat.reduceGT, Nat.reduceLT, Int.reduceLE, Int.reduceLT, Int.reduceNeg, reduceCtorEq, s78', q14']
          refine RunI.by (jc.app (by omega) ouc hunc (by omega)) ?_
          rintro v2 HD ⟨can, j2, sz2, sm2⟩
          obtain ⟨v2a, v2c, rfl⟩ := j2.lst.lists.form
          simp only [go_sem, ↓reduceIte, Nat.reduceEqDiff, Nat.reduceLeDiff, Nat.reduceAdd, Nat.reduceMul, Nat.reduceSub, Nat.reduceBEq, Nat.reduceGT, Nat.reduceLT, Int.reduceLE, Int.reduceLT, Int.reduceNeg, reduceCtorEq, s78']
          have chs := chC.size
          refine ⟨rfl, can, j2.lp, fin j2 (by omega) (fun g h1 h2 => ?_) fun g hg => ?_⟩
          · have hgb : ¬ (N' g ∨ (Hb.size ≤ g ∧ g < HC.size)) := by rintro (e | e); exact h2 e; omega
            rw [sm2 g (by omega) hgb]
            exact chC.get g (by omega) fun e => h2 (jb.nf g e)
          · rcases hg with (hg | hg) | hg | hg
            · exact .inl hg
            · exact .inr (.inl (by omega))
            · exact .inr (.inr hg)
            · exact .inr (.inl (by omega))
        · have cka : ¬ ((k : Nat) : Int) = ((a : Nat) : Int) := by omega
          simp only [c6_L3, c6_L4, go_sem, ↓reduceIte, Nat.reduceEqDiff, Nat.reduceLeDiff, Nat.reduceAdd, Nat.reduceMul, Nat.reduceSub, Nat.reduceBEq, Nat.reduceGT, Nat.reduceLT, Int.reduceLE, Int.reduceLT, Int.reduceNeg, reduceCtorEq, zipL, Array.toList_zip, List.zip, List.zipWith, ← hHb, e6, e7, e10, e12, s78', q14, q6, cka]
          have eS : Sk k = Sk (k + 1) := by rw [Sk0 k hka, Sk0 (k + 1) (by omega)]
          rw [eS] at jb
          refine ⟨j.lp, RunI.by (jb.app (by omega) oub hun (by omega)) ?_⟩
          rintro v2 HD ⟨can, j2, sz2, sm2⟩
          obtain ⟨v2a, v2c, rfl⟩ := j2.lst.lists.form
          simp only [go_sem, ↓reduceIte, Nat.reduceEqDiff, Nat.reduceLeDiff, Nat.reduceAdd, Nat.reduceMul, Nat.reduceSub, Nat.reduceBEq, Nat.reduceGT, Nat.reduceLT, Int.reduceLE, Int.reduceLT, Int.reduceNeg, reduceCtorEq, s78']
          refine ⟨rfl, can, j2.lp, fin j2 (by omega) (fun g h1 h2 => sm2 g (by omega) h2) fun g hg => ?_⟩
          rcases hg with hg | hg | hg
          · exact .inl hg
          · exact .inr (.inr hg)
          · exact .inr (.inl (by omega))
      · exact ⟨fun g _ _ _ _ => rfl, Nat.le_refl _, by rw [Sk0 0 (by omega)]; exact fs9.ext x9A, fun g hg => .inl hg, x9A.old k14, kl, LstN.nil, fun g hg => hg, fun g hg => by have := lF5 g hg; omega, fun g hg => hg, by omega, by omega, by omega, nFh _ (by omega), nFh _ (by omega)⟩
      · intro _; simp only; rw [Sk0 0 (by omega), hop]; exact ⟨rfl, by omega⟩
      · intro h; simp only at h; rw [Sk0 0 (by omega), hop] at h; exact absurd rfl h
      · rintro _ HE ⟨⟨k, F', N', v'⟩, j, hkE⟩
        simp only at j hkE
        subst hkE
        refine .inl ⟨j.lp, ?_⟩
        obtain ⟨je, esz, ex⟩ := j.set (.loop { r with state := .exhausted })
        obtain ⟨HF, hHF⟩ : ∃ HF, HF = hset HE (H9.size + 1) (.loop { r with state := .exhausted }) := ⟨_, rfl⟩
        rw [← hHF] at je esz ex
        have stl : ∀ g, g < H9.size → g ≠ H8.size → ¬ F4 g → HF[g]? = H9[g]? := fun g h1 h2 h3 => by rw [je.old g (by omega) h2 (by omega) h3, x9A.get g h1]
        have c6F := (stl _ (by omega) (by omega) o6).trans c69
        have c7F := (stl _ (by omega) (by omega) o7).trans c79
        have c8F := (stl _ (by omega) (by omega) o8).trans c89
        have cBF := (stl _ (by omega) (by omega) oB).trans cB9
        have cPF := (stl _ (by omega) (by omega) (nFh _ (by omega))).trans cP9
        have kc1F := (stl _ (by omega) (by omega) (nFh _ (by omega))).trans kc19
        have kc2F := (stl _ (by omega) (by omega) (nFh _ (by omega))).trans kc29
        have dDF : HF[H9.size]? = some (.deferred (some [])) := (je.old _ (by omega) (by omega) (by omega) (nFh _ (by omega))).trans kD
        have xHF : Ext H HF := ⟨by have := je.size; omega, fun g hg => by rw [stl g (by omega) (by omega) (nFo g hg)]; exact xH9.get g hg⟩
        have oF4 : ∀ g, HB.size ≤ g → g < H3.size → HF[g]? = H4[g]? := fun g h1 h2 => by rw [stl g (by omega) (by omega) (nFl g h1 h2)]; exact o94 g h1 h2
        have LF := lists xHF oF4
        have q6 : hget HF H.size 0 = some (.int .i64 a) := hget_cells c6F
        have q7 : hget HF (H.size + 1) 0 = some (.int .i64 X) := hget_cells c7F
        have qB : hget HF H2.size 0 = some (ptrOf b) := hget_cells cBF
        have qP : hget HF H5.size 0 = some (.int .i64 P) := hget_cells cPF
        have q14 : hget HF H8.size 0 = some v' := hget_cells je.cell
        simp only [ptrOf] at qB
        have LG := je.lst.lists
        obtain ⟨va', vc', rfl⟩ := LG.form
        have tk : (l'.take (a + 1)).length = a + 1 := by rw [List.length_take]; omega
        have wa1 : IntKind.i64.wrap ((a : Int) + 1) = ((a + 1 : Nat) : Int) := by rw [w64_id (by omega) (by omega)]; omega
        have lcw : l'.length ≤ wc := by obtain ⟨vs', h1, _⟩ := LF; have := Sl.lecap h1; exact this
        have ca0 : (0 : Int) ≤ ((a + 1 : Nat) : Int) := by omega
        have ca1 : ((a + 1 : Nat) : Int) ≤ (wc : Int) := by omega
        have eww : (if wc = 0 then wa else Option.map (fun x => x) wa) = wa := by cases wa <;> simp
        simp only [go_sem, ↓reduceIte, Nat.reduceEqDiff, Nat.reduceLeDiff, Nat.reduceAdd, Nat.reduceMul, Nat.reduceSub, Nat.reduceBEq, Nat.reduceGT, Nat.reduceLT, Int.reduceLE, Int.reduceLT, Int.reduceNeg, reduceCtorEq, ← hHF, e1, e6, e7, e8, e10, e11, e12, s78', q14, q6, wa1, ca0, ca1, Int.toNat_natCast, eww]
        have clt : ∀ y ∈ l'.take (a + 1), Byt y := fun y hy => cl3 y (List.mem_of_mem_take hy)
        refine FunI.by (F15 _ _ _ _ HF LG (lists_take LF (by omega)) clt clt (by rw [tk]; omega)) ?_
        rintro _ _ ⟨rfl, rfl⟩
        obtain ⟨_, _, _, _, _, hPF⟩ := je.fs
        have dS1 : (Sk (a + 1)).dat f = rotD (rowB (fileR hd' l')) (P + 2) X := by rw [Sk1]; exact dat1
        have nS1 : (Sk (a + 1)).now nmF = some f := by rw [Sk1]; exact now1
        have hrot2 : rotS (Sk (a + 1)) nmF ((P + 2 : Nat) : Int) (X : Int) = (datS (Sk (a + 1)) f (rowB (fileR hd' l')), 0) := by
          rw [rotS_calm nmF_nm nS1 (i := P + 2) (by rw [dS1, rotD_len]; omega) (x := X) (by omega) (by omega), dS1, rotD_back bR (by omega) (by omega)]; rfl
        have pc2 : Peace (datS (Sk (a + 1)) f (rowB (fileR hd' l'))) := datS_peace (by rw [Sk1]; exact pc1) (by rw [Sk1, held1]; exact hfh) bR (by rw [dS1, rotD_len])
        obtain ⟨S2, hS2⟩ : ∃ S2, S2 = datS (Sk (a + 1)) f (rowB (fileR hd' l')) := ⟨_, rfl⟩
        have now2 : S2.now nmF = some f := by rw [hS2]; exact nS1
        have dat2 : S2.dat f = rowB (fileR hd' l') := by rw [hS2]; exact setF_same _ _ _
        rw [← hS2] at hrot2 pc2
        clear hS2
        simp only [go_sem, ↓reduceIte, Nat.reduceEqDiff, Nat.reduceLeDiff, Nat.reduceAdd, Nat.reduceMul, Nat.reduceSub, Nat.reduceBEq, Nat.reduceGT, Nat.reduceLT, Int.reduceLE, Int.reduceLT, Int.reduceNeg, reduceCtorEq, e1, e6, e7, e8, e10, e11, e12, s78', qB, qP, wP2, q7]
        refine FunI.by (F29 hPF (okS _) nmF ((P + 2 : Nat) : Int) (X : Int)) ?_
        rw [hrot2]
        rintro _ HG ⟨rfl, F2, hG, chG⟩
        simp only at hG
        have hsF := je.size
        have hsG := chG.size
        have nF2 : ∀ g, g < HF.size → ¬ F' g → ¬ F2 g := fun g h1 h2 e => by
          rcases chG.old g e with e | e
          · exact h2 e
          · omega
        have nF' : ∀ g, g < HR.size → ¬ F4 g → ¬ F' g := fun g h1 h2 e => by
          rcases je.fo g e with e | e
          · exact h2 e
          · omega
        have stG : ∀ g, g < H9.size → g ≠ H8.size → ¬ F4 g → HG[g]? = H9[g]? := fun g h1 h2 h3 => by rw [chG.get g (by omega) (nF' g (by omega) h3)]; exact stl g h1 h2 h3
        have dDG : HG[H9.size]? = some (.deferred (some [])) := (chG.get _ (by omega) (nF' _ (by omega) (nFh _ (by omega)))).trans dDF
        have xGK : Ext HG (HG.push (.cells #[.slice none 0 0] 23)) := Ext.push _
        have k18 : (HG.push (.cells #[.slice none 0 0] 23))[HG.size]? = some (.cells #[.slice none 0 0] 23) := push_new
        have sGK : (HG.push (.cells #[.slice none 0 0] 23)).size = HG.size + 1 := by simp
        obtain ⟨HK, hHK⟩ : ∃ HK, HK = HG.push (.cells #[.slice none 0 0] 23) := ⟨_, rfl⟩
        rw [← hHK] at xGK k18 sGK
        simp only [go_sem, ↓reduceIte, Nat.reduceEqDiff, Nat.reduceLeDiff, Nat.reduceAdd, Nat.reduceMul, Nat.reduceSub, Nat.reduceBEq, Nat.reduceGT, Nat.reduceLT, Int.reduceLE, Int.reduceLT, Int.reduceNeg, reduceCtorEq, e1, e6, e7, e8, e10, e11, e12, ← hHK]
        clear hHK
        refine RangeRI.by mixed (gf := 53) (lb := #[ptrOf H4.size, ptrOf (H4.size + 1)]) (by simp only [go_sem, ↓reduceIte, Nat.reduceEqDiff, Nat.reduceLeDiff, Nat.reduceAdd, Nat.reduceMul, Nat.reduceSub, Nat.reduceBEq, Nat.reduceGT, Nat.reduceLT, Int.reduceLE, Int.reduceLT, Int.reduceNeg, reduceCtorEq, ptrOf, e11]) (by simp only [go_sem, ↓reduceIte, Nat.reduceEqDiff, Nat.reduceLeDiff, Nat.reduceAdd, Nat.reduceMul, Nat.reduceSub, Nat.reduceBEq, Nat.reduceGT, Nat.reduceLT, Int.reduceLE, Int.reduceLT, Int.reduceNeg, reduceCtorEq]) (by decide) ?_
        intro r2 hy2
        show Fun _ _ #[_, _, _] _ _
        have xKR : Ext HK ((HK.push (.deferred (some []))).push (.loop r2)) := Upto.push (Ext.push _) (by simp) _
        have kD2 : ((HK.push (.deferred (some []))).push (.loop r2))[HK.size]? = some (.deferred (some [])) := by rw [push_old (by simp)]; exact push_new
        have kl2 : ((HK.push (.deferred (some []))).push (.loop r2))[HK.size + 1]? = some (.loop r2) := by
          have := push_new (H := HK.push (.deferred (some []))) (x := .loop r2)
          simpa using this
        have sR2 : ((HK.push (.deferred (some []))).push (.loop r2)).size = HK.size + 2 := by simp
        obtain ⟨HR2, hHR2⟩ : ∃ HR2, HR2 = ((HK.push (.deferred (some []))).push (.loop r2)) := ⟨_, rfl⟩
        rw [← hHR2] at xKR kD2 kl2 sR2 ⊢
        clear hHR2
        have xGR : Ext HG HR2 := Upto.ext xGK xGK.size xKR
        have lF2 : ∀ g, F2 g → g < HG.size := fun g hg => FsH.lt hG hg
        have nF2h : ∀ g, HG.size ≤ g → ¬ F2 g := fun g hg e => by have := lF2 g e; omega
        have nF2l : ∀ g, g < HR.size → ¬ F4 g → ¬ F2 g := fun g h1 h2 => nF2 g (by omega) (nF' g h1 h2)
        have stR : ∀ g, g < H9.size → g ≠ H8.size → ¬ F4 g → HR2[g]? = H9[g]? := fun g h1 h2 h3 => by rw [xGR.get g (by omega)]; exact stG g h1 h2 h3
        have xHR : Ext H HR2 := ⟨by omega, fun g hg => by rw [stR g (by omega) (by omega) (nFo g hg)]; exact xH9.get g hg⟩
        have nxK : ∀ k, k < l'.length → nextR S2 (rdK nmF hd' l' k) = (rdK nmF hd' l' (k + 1), l'.getD k [], true, 0) := fun k hk => by
          obtain ⟨rest, hr⟩ := rdK_here (hd := hd') (l := l') (k := k) hk
          exact rdK_next pc2 now2 cl2 hk (rest := rest) (by rw [dat2]; exact hr)
        have nxE := rdK_end pc2 now2 dat2
        have hop2 := open_rdK pc2 now2 dat2 lh
        refine (F53 (σ := Nat × (Nat → Prop) × (Nat → Prop) × Value) (S := fun _ => S2) (Fp := fun p => p.2.1) (N := fun p => p.2.2.1) (J := fun p Hh => JZ HR2 F2 b HG.size (HK.size + 1) l' S2 p.1 p.2.1 p.2.2.1 p.2.2.2 (.loop r2) Hh)
          (R := fun p x => x = rdK nmF hd' l' p.1 ∧ p.1 ≤ l'.length) (E := fun p => p.1 = l'.length) (b := b) (l := HK.size + 1) (n := nmF) (0, F2, fun g => g < HR2.size, .slice none 0 0) ?_ ?_ ?_ ?_ ?_ ?_ ?_ ((stR _ (by omega) (by omega) (nFh _ (by omega))).trans kc19) ((stR _ (by omega) (by omega) (nFh _ (by omega))).trans kc29)).mono ?_
        · rintro ⟨k, F', N', v'⟩ Hh j
          exact ⟨j.fs, pc2.ok, j.crc (ht.ext xHR) (nF2l 0 (by omega) (nFo 0 h0lt)) (by omega) (by omega), j.nf, j.nl⟩
        · rintro ⟨k, F', N', v'⟩ Hh Hh' j hs hk
          exact j.stab hs hk
        · rintro ⟨k, F', N', v'⟩ x ⟨rfl, hk⟩ he
          simp only at hk he ⊢
          by_cases hka : k < l'.length
          · rw [nxK k hka] at he
            rcases he with he | he
            · exact absurd rfl he
            · cases he
          · omega
        · rintro ⟨k, F', N', v'⟩ x Hh u j ⟨rfl, hk⟩ c1 c2 ou hun
          simp only at j hk c1 c2 ou hun ⊢
          have hka : k < l'.length := by
            rcases Nat.lt_or_ge k l'.length with hh | hh
            · exact hh
            · have : k = l'.length := by omega
              subst this
              rw [nxE.1] at c2; cases c2
          rw [nxK k hka] at ou ⊢
          simp only at ou ⊢
          refine hy2 j.lp rfl ?_
          obtain ⟨jb, bsz, bx⟩ := j.set (.loop { r2 with state := .busy })
          have oub : V.Own (hset Hh (HK.size + 1) (.loop { r2 with state := .busy })) 0 5 1 u ((l'.getD k []).map (.int .u8)) := ou.keep fun g hg => bx g (by rintro rfl; exact hun _ hg (j.nb _ (by omega)))
          obtain ⟨Hb, hHb⟩ : ∃ Hb, Hb = hset Hh (HK.size + 1) (.loop { r2 with state := .busy }) := ⟨_, rfl⟩
          rw [← hHb] at jb bsz bx oub
          have q18 : hget Hb HG.size 0 = some v' := hget_cells jb.cell
          obtain ⟨va', vc', rfl⟩ := jb.lst.lists.form
          obtain ⟨ua', ul', uc', rfl⟩ := ou.sl.form
          simp only [c6_L5, c6_L6, go_sem, ↓reduceIte, Nat.reduceEqDiff, Nat.reduceLeDiff, Nat.reduceAdd, Nat.reduceMul, Nat.reduceSub, Nat.reduceBEq, Nat.reduceGT, Nat.reduceLT, Int.reduceLE, Int.reduceLT, Int.reduceNeg, reduceCtorEq, zipL, Array.toList_zip, List.zip, List.zipWith, ← hHb, q18]
          refine ⟨j.lp, RunI.by (jb.app hka oub hun (by omega)) ?_⟩
          rintro v2 HD ⟨can, j2, sz2, sm2⟩
          obtain ⟨v2a, v2c, rfl⟩ := j2.lst.lists.form
          simp only [go_sem, ↓reduceIte, Nat.reduceEqDiff, Nat.reduceLeDiff, Nat.reduceAdd, Nat.reduceMul, Nat.reduceSub, Nat.reduceBEq, Nat.reduceGT, Nat.reduceLT, Int.reduceLE, Int.reduceLT, Int.reduceNeg, reduceCtorEq]
          obtain ⟨j3, s3, x3⟩ := j2.set (.loop r2)
          refine ⟨rfl, can, j2.lp, true, (k + 1, F', _, _), rfl, j3, by omega, fun g h1 h2 _ => ?_, fun g hg => ?_, ?_⟩
          · have : g ≠ HK.size + 1 := by rintro rfl; exact h2 (j.nb _ (by omega))
            rw [x3 g this, sm2 g (by omega) h2, bx g this]
          · rcases hg with hg | hg | hg
            · exact .inl hg
            · exact .inr (.inr hg)
            · exact .inr (.inl (by omega))
          · rw [if_pos rfl]; exact ⟨rfl, by simp only; omega⟩
        · exact ⟨fun g _ _ _ _ => rfl, Nat.le_refl _, hG.ext xGR, fun g hg => .inl hg, xKR.old k18, kl2, LstN.nil, fun g hg => hg, fun g hg => by have := lF2 g hg; omega, fun g hg => hg, by omega, by omega, by omega, nF2h _ (by omega), nF2h _ (by omega)⟩
        · intro _; rw [hop2]; exact ⟨rfl, by simp only; omega⟩
        · intro h; rw [hop2] at h; exact absurd rfl h
        · rintro _ HL ⟨⟨k, F3, N3', v3⟩, j3, hkE⟩
          simp only at j3 hkE
          subst hkE
          refine .inl ⟨j3.lp, ?_⟩
          obtain ⟨jm, msz, mx⟩ := j3.set (.loop { r2 with state := .exhausted })
          obtain ⟨HM, hHM⟩ : ∃ HM, HM = hset HL (HK.size + 1) (.loop { r2 with state := .exhausted }) := ⟨_, rfl⟩
          rw [← hHM] at jm msz mx
          have stM : ∀ g, g < H9.size → g ≠ H8.size → ¬ F4 g → HM[g]? = H9[g]? := fun g h1 h2 h3 => by rw [jm.old g (by omega) (by omega) (by omega) (nF2l g (by omega) h3)]; exact stR g h1 h2 h3
          have xHM : Ext H HM := ⟨by have := jm.size; omega, fun g hg => by rw [stM g (by omega) (by omega) (nFo g hg)]; exact xH9.get g hg⟩
          have LM := lists xHM (fun g h1 h2 => by rw [stM g (by omega) (by omega) (nFl g h1 h2)]; exact o94 g h1 h2)
          have q18 : hget HM HG.size 0 = some v3 := hget_cells jm.cell
          have LN := jm.lst.lists
          rw [List.take_length] at LN
          obtain ⟨va3, vc3, rfl⟩ := LN.form
          simp only [go_sem, ↓reduceIte, Nat.reduceEqDiff, Nat.reduceLeDiff, Nat.reduceAdd, Nat.reduceMul, Nat.reduceSub, Nat.reduceBEq, Nat.reduceGT, Nat.reduceLT, Int.reduceLE, Int.reduceLT, Int.reduceNeg, reduceCtorEq, ← hHM, e1, q18]
          refine FunI.by (F15 _ _ _ _ HM LN LM cl3 cl3 (by omega)) ?_
          rintro _ _ ⟨rfl, rfl⟩
          simp only [go_sem, ↓reduceIte, Nat.reduceEqDiff, Nat.reduceLeDiff, Nat.reduceAdd, Nat.reduceMul, Nat.reduceSub, Nat.reduceBEq, Nat.reduceGT, Nat.reduceLT, Int.reduceLE, Int.reduceLT, Int.reduceNeg, reduceCtorEq, e8]
          have c8M := (stM _ (by omega) (by omega) o8).trans c89
          have d2M : HM[HK.size]? = some (.deferred (some [])) := (jm.old _ (by omega) (by omega) (by omega) (nF2h _ (by omega))).trans kD2
          have d1M : HM[H9.size]? = some (.deferred (some [])) := (jm.old _ (by omega) (by omega) (by omega) (nF2l _ (by omega) (nFh _ (by omega)))).trans ((xGR.get _ (by omega)).trans dDG)
          refine ⟨rfl, hcan_of c8M (by simp), ?_⟩
          rw [doneR_cons, doneR_cons]
          simp only [go_sem, ↓reduceIte, Nat.reduceEqDiff, Nat.reduceLeDiff, Nat.reduceAdd, Nat.reduceMul, Nat.reduceSub, Nat.reduceBEq, Nat.reduceGT, Nat.reduceLT, Int.reduceLE, Int.reduceLT, Int.reduceNeg, reduceCtorEq, e8]
          refine ⟨?_, ?_, load1 ty4 rfl (a := .bool true) ?_ ?_⟩
          · simp (disch := omega) only [hput_other, d2M]
          · simp (disch := omega) only [hset_other, hput_other, d1M]
          · simp (disch := omega) only [hset_other]
            rw [hput_same c8M]; rfl
          · refine ⟨rfl, ⟨?_, fun g hg => ?_⟩⟩
            · simp only [hset_size, hput_size]; exact xHM.size
            · simp (disch := omega) only [hset_other, hput_other]
              exact xHM.get g hg
end Go.Proofs.YtgpoldjpmcoppaaDoor
