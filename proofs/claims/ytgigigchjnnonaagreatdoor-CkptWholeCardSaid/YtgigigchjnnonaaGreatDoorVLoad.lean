/- Load. -/
import Derived.Test.YtgigigchjnnonaaGreatDoorVPay
set_option linter.unusedSimpArgs false
set_option linter.unusedVariables false
set_option maxRecDepth 20000
namespace Go.V
open Go
theorem drawn_at {P : Program} {T : Tys} {l : Tr} {ρ : Env} {H : Heap} {Q : Post} (N : Nat → Prop) (h : @drawsNI P T N H l ρ H ⟨Q⟩) : @DrawnI P T l ρ H ⟨Q⟩ := ⟨N, h⟩
theorem kept_refl (N : Nat → Prop) (H : Heap) : Kept N H H := ⟨Nat.le_refl _, fun _ _ _ => rfl⟩
theorem kept_put {N : Nat → Prop} {H H' : Heap} {g o : Nat} {vs : List Value} (h : Kept N H H') (hg : ¬ N g) : Kept N H (hput H' g o vs) :=
  ⟨by rw [hput_size]; exact h.1, fun x hx hn => by rw [hput_other _ _ _ _ (by rintro rfl; exact hg hn)]; exact h.2 x hx hn⟩
end Go.V
namespace Go.Proofs.YtgigigchjnnonaaGreatDoor
open Go Go.V
/-- What is still to come from a reader: the payloads, and how it ends. -/
inductive Rest (s : St) : RdS → List (List Int) → Int → Prop
  | err {x : RdS} : (nextR s x).2.2.2 ≠ 0 → Rest s x [] (nextR s x).2.2.2
  | done {x : RdS} : (nextR s x).2.2.2 = 0 → (nextR s x).2.2.1 = false → Rest s x [] 0
  | more {x : RdS} {l : List (List Int)} {e : Int} : (nextR s x).2.2.2 = 0 → (nextR s x).2.2.1 = true → Rest s (nextR s x).1 l e → Rest s x ((nextR s x).2.1 :: l) e
def Loads (s : St) (n : Nm) (hd : List Int) (l : List (List Int)) (err : Int) : Prop :=
  if (openF s n).2.2 ≠ 0 then hd = [] ∧ l = [] ∧ err = (openF s n).2.2 else
  ∃ l' e, Rest s (openF s n).1 l' e ∧ err = e ∧ (if e ≠ 0 then hd = [] ∧ l = [] else hd = (openF s n).2.1 ∧ l = l')
theorem load1 {K : Heap} {o : Nat} {a : Value} {t : TypeId} {k : V.K} {by' : Nat} {z : Value} (ht : tyOf Tryz.prog t = some ⟨k, 1, by', z⟩) (hk : k.agg = false) (hK : K[o]? = some (.cells #[a] t)) {C : Value → Prop} (h : C a) :
    loadV (tyOf Tryz.prog) t (.pointer (some ⟨o, 0, none⟩)) K C := by
  have q0 : hget K o 0 = some a := hget_cells hK
  rw [loadV_K, ht]
  show (if k.agg = true then _ else @optV Value (hget K o 0) ⟨C⟩)
  rw [if_neg (by rw [hk]; decide), q0]
  simp only [go_sem, ↓reduceIte, Nat.reduceEqDiff, Nat.reduceLeDiff, Nat.reduceAdd, Nat.reduceMul, Nat.reduceSub, Nat.reduceBEq, Nat.reduceGT, Nat.reduceLT, Int.reduceLE, Int.reduceLT, Int.reduceNeg, reduceCtorEq]
  exact h
theorem ownl_keep {H H' : Heap} {B : Nat} {e ee : TypeId} {v : Value} {xss : List (List Int)} (h : OwnLists H B e ee v xss) (hk : ∀ g, B ≤ g → g < H.size → H'[g]? = H[g]?) : OwnLists H' B e ee v xss := by
  obtain ⟨vs, h1, h2, h3⟩ := h
  exact ⟨vs, h1.keep fun g hg => hk g (h1.blk hg).1 (h1.blk hg).2.1, h2.mono fun _ _ h => h.keep fun g hg => hk g (h.blk hg).1 (h.blk hg).2.1, h3⟩
theorem ownl_mono {H : Heap} {B B' : Nat} {e ee : TypeId} {v : Value} {xss : List (List Int)} (h : OwnLists H B e ee v xss) (hb : B' ≤ B) : OwnLists H B' e ee v xss := by
  obtain ⟨vs, h1, h2, h3⟩ := h
  exact ⟨vs, h1.mono hb, h2.mono fun _ _ h => h.mono hb, h3⟩
theorem append_list2 {P : Program} {Hh H : Heap} {B : Nat} {t e ee t' ty : TypeId} {z : Value} (ht : tyOf P t = some ⟨.sl e, t', ty, z⟩) (he : tyOf P e = some ⟨.sl ee, 1, 24, .slice none 0 0⟩) (hne : e ≠ ee)
    {v u : Value} {xss : List (List Int)} {ys : List Int} (ho : OwnLists Hh B e ee v xss) (hs : Hh.size ≤ H.size) (hk : ∀ g, B ≤ g → g < Hh.size → H[g]? = Hh[g]?) (hu : V.Own H Hh.size ee 1 u (ys.map (.int .u8))) (hB : B ≤ Hh.size) (hl : xss.length ≤ 5864062010000) :
    RunS P (sAppend #[t, t] #[v, .slice (some ⟨H.size, 0, none⟩) 1 1]) (H.push (.cells #[u] e)) (fun v2 H2 => OwnLists H2 B e ee v2 (xss ++ [ys]) ∧ Upto B H H2) := by
  have hz : (H.extract 0 Hh.size).size = Hh.size := by simp; omega
  refine append_list ht he hne (H0 := H.extract 0 Hh.size) (ownl_keep ho fun g h1 h2 => ?_) ⟨by omega, fun g hg => ?_⟩ (by rw [hz]; exact hu) (by omega) hl
  · rw [Array.getElem?_extract, if_pos (by omega), Nat.zero_add, hk g h1 h2]
  · rw [Array.getElem?_extract, if_pos (by omega), Nat.zero_add]
section
variable {H : Heap} {F : Nat → Prop} {b w : Nat} {s : St} {x : RdS}
theorem F102 (w : Nat) (H : Heap) : Fun Tryz.prog 102 #[ptrOf w] H (fun r H' => r = .func (.func 209) #[] #[ptrOf H.size] ∧ H' = H.push (.cells #[ptrOf w] 155)) := by
  refine fun_of mixed (args := [_]) Tryz.func102 Tryz.ntmps102 b102 r102 rfl ?_
  simp only [go_sem, ↓reduceIte, Nat.reduceEqDiff, Nat.reduceLeDiff, Nat.reduceAdd, Nat.reduceMul, Nat.reduceSub, Nat.reduceBEq, Nat.reduceGT, Nat.reduceLT, Int.reduceLE, Int.reduceLT, Int.reduceNeg, reduceCtorEq, ptrOf]
theorem open_at {s : St} (ok : Ok s) (n : Nm) (h : (openF s n).2.2 = 0) : 12 ≤ (openF s n).1.at' ∧ (openF s n).1.at' ≤ 2147483647 ∧ (openF s n).1.data = 0 ∧ (openF s n).1.name = n ∧ (openF s n).1.over = false := by
  have hk := nextF_keeps s (newR n)
  unfold openF at h ⊢
  simp only at h ⊢
  split at h
  · rename_i h1; exact absurd h h1
  rename_i h1
  split at h
  · cases h
  rename_i h2
  rw [if_neg h1, if_neg h2]
  refine ⟨?_, ?_, hk.1, hk.2.1, hk.2.2⟩
  all_goals
    have h3 := Classical.not_not.1 h1
    unfold nextF at h3 ⊢
    simp only at h3 ⊢
    split at h3
    · rename_i h4; simp only at h3; exact absurd h3 h4
    · rename_i h4
      rw [if_neg h4]
      split at h3
      · cases h3
      · rename_i h5
        rw [if_neg h5]
        obtain ⟨d1, d2, d3⟩ := decF_len (read_byt ok (newR n).name (newR n).at' 1036) (Classical.not_not.1 h5)
        have := read_room ok (newR n).name (k := 1036) (a := (newR n).at') (Int.le_refl 0) (by omega)
        have e : (newR n).at' = 0 := rfl
        simp only
        omega
set_option maxHeartbeats 3200000 in
theorem F42 {n : Nm} (h : FsH H F b s) (ok : Ok s) (ht : CrcTab H) :
    Fun Tryz.prog 42 #[ptrOf b, .string n] H (fun r H' => ∃ hd l err u v, r = .tuple #[u, v, .int .i64 err] ∧ Loads s n hd l err ∧ Ext H H' ∧ V.Own H' H.size 5 1 u (hd.map (.int .u8)) ∧ OwnLists H' H.size 53 5 v l) := by
  refine fun_ofR mixed (args := [_, _]) Tryz.func42 Tryz.ntmps42 b42 r42 rfl ?_
  simp only [go_sem, ↓reduceIte, Nat.reduceEqDiff, Nat.reduceLeDiff, Nat.reduceAdd, Nat.reduceMul, Nat.reduceSub, Nat.reduceBEq, Nat.reduceGT, Nat.reduceLT, Int.reduceLE, Int.reduceLT, Int.reduceNeg, reduceCtorEq, ptrOf]
  have x1 : Ext H (((H.push (.cells #[.slice none 0 0] 53)).push (.cells #[.slice none 0 0] 32)).push (.cells #[.int .i64 0] 54)) := Upto.push (Upto.push (Ext.push _) (by simp) _) (by simp; omega) _
  have k4 : (((H.push (.cells #[.slice none 0 0] 53)).push (.cells #[.slice none 0 0] 32)).push (.cells #[.int .i64 0] 54))[H.size]? = some (.cells #[.slice none 0 0] 53) := by
    rw [push_old (by simp; omega), push_old (by simp)]; exact push_new
  have k5 : (((H.push (.cells #[.slice none 0 0] 53)).push (.cells #[.slice none 0 0] 32)).push (.cells #[.int .i64 0] 54))[H.size + 1]? = some (.cells #[.slice none 0 0] 32) := by
    rw [push_old (by simp)]
    have := push_new (H := H.push (.cells #[.slice none 0 0] 53)) (x := .cells #[.slice none 0 0] 32)
    simpa using this
  have k6 : (((H.push (.cells #[.slice none 0 0] 53)).push (.cells #[.slice none 0 0] 32)).push (.cells #[.int .i64 0] 54))[H.size + 1 + 1]? = some (.cells #[.int .i64 0] 54) := by
    have := push_new (H := (H.push (.cells #[.slice none 0 0] 53)).push (.cells #[.slice none 0 0] 32)) (x := .cells #[.int .i64 0] 54)
    simpa using this
  have s1 : (((H.push (.cells #[.slice none 0 0] 53)).push (.cells #[.slice none 0 0] 32)).push (.cells #[.int .i64 0] 54)).size = H.size + 3 := by simp
  obtain ⟨H1, hH1⟩ : ∃ H1, H1 = (((H.push (.cells #[.slice none 0 0] 53)).push (.cells #[.slice none 0 0] 32)).push (.cells #[.int .i64 0] 54)) := ⟨_, rfl⟩
  rw [← hH1] at x1 k4 k5 k6 s1 ⊢
  clear hH1
  refine FunI.by (F101 (h.ext x1) ok (ht.ext x1)) ?_
  rintro _ H2 ⟨p, u, rfl, ou, h2, x2, hp⟩
  have x12 : Ext H H2 := Upto.ext x1 x1.size x2
  have k4 := x2.old k4
  have k5 := x2.old k5
  have k6 := x2.old k6
  have s2 := x2.size
  obtain ⟨pa, pl, pc, rfl⟩ := ou.sl.form
  by_cases c0 : (openF s n).2.2 ≠ 0
  · rw [if_neg c0] at hp
    subst hp
    simp only [go_sem, ↓reduceIte, Nat.reduceEqDiff, Nat.reduceLeDiff, Nat.reduceAdd, Nat.reduceMul, Nat.reduceSub, Nat.reduceBEq, Nat.reduceGT, Nat.reduceLT, Int.reduceLE, Int.reduceLT, Int.reduceNeg, reduceCtorEq, c0, Array.size_push]
    have p4 : (hput (hput (hput H2 H.size 0 [.slice none 0 0]) (H.size + 1) 0 [.slice none 0 0]) (H.size + 1 + 1) 0 [.int .i64 (openF s n).2.2])[H.size]? = some (.cells #[.slice none 0 0] 53) := by
      rw [hput_other _ _ _ _ (by omega), hput_other _ _ _ _ (by omega), hput_same k4]; rfl
    have p5 : (hput (hput (hput H2 H.size 0 [.slice none 0 0]) (H.size + 1) 0 [.slice none 0 0]) (H.size + 1 + 1) 0 [.int .i64 (openF s n).2.2])[H.size + 1]? = some (.cells #[.slice none 0 0] 32) := by
      rw [hput_other _ _ _ _ (by omega), hput_same ((hput_other _ _ _ _ (by omega)).trans k5)]; rfl
    have p6 : (hput (hput (hput H2 H.size 0 [.slice none 0 0]) (H.size + 1) 0 [.slice none 0 0]) (H.size + 1 + 1) 0 [.int .i64 (openF s n).2.2])[H.size + 1 + 1]? = some (.cells #[.int .i64 (openF s n).2.2] 54) := by
      rw [hput_same ((hput_other _ _ _ _ (by omega)).trans ((hput_other _ _ _ _ (by omega)).trans k6))]; rfl
    refine ⟨rfl, hcan_of k4 (by simp), rfl, hcan_of ((hput_other _ _ _ _ (by omega)).trans k5) (by simp), rfl, hcan_of ((hput_other _ _ _ _ (by omega)).trans ((hput_other _ _ _ _ (by omega)).trans k6)) (by simp), ?_⟩
    refine load1 ty53 rfl p4 (load1 ty32 rfl p5 (load1 ty54 rfl p6 ?_))
    refine ⟨[], [], (openF s n).2.2, _, _, rfl, ?_, Upto.hput (Upto.hput (Upto.hput x12 (Nat.le_refl _)) (by omega)) (by omega), .inl ⟨rfl, rfl⟩, OwnLists.nil⟩
    unfold Loads
    rw [if_pos c0]
    exact ⟨rfl, rfl, rfl⟩
  rw [if_pos (Classical.not_not.1 c0)] at hp
  obtain ⟨w, rfl, hw, hwR⟩ := hp
  simp only [go_sem, ↓reduceIte, Nat.reduceEqDiff, Nat.reduceLeDiff, Nat.reduceAdd, Nat.reduceMul, Nat.reduceSub, Nat.reduceBEq, Nat.reduceGT, Nat.reduceLT, Int.reduceLE, Int.reduceLT, Int.reduceNeg, reduceCtorEq, Classical.not_not.1 c0, ptrOf, Array.size_push]
  refine FunI.by (F102 w _) ?_
  rintro _ _ ⟨rfl, rfl⟩
  simp only [go_sem, ↓reduceIte, Nat.reduceEqDiff, Nat.reduceLeDiff, Nat.reduceAdd, Nat.reduceMul, Nat.reduceSub, Nat.reduceBEq, Nat.reduceGT, Nat.reduceLT, Int.reduceLE, Int.reduceLT, Int.reduceNeg, reduceCtorEq, Array.size_push]
  have x4 : Ext H2 ((H2.push (.cells #[.slice none 0 0] 32)).push (.cells #[ptrOf w] 155)) := Upto.push (Ext.push _) (by simp) _
  have k10 : ((H2.push (.cells #[.slice none 0 0] 32)).push (.cells #[ptrOf w] 155))[H2.size]? = some (.cells #[.slice none 0 0] 32) := by rw [push_old (by simp)]; exact push_new
  have kc : ((H2.push (.cells #[.slice none 0 0] 32)).push (.cells #[ptrOf w] 155))[H2.size + 1]? = some (.cells #[ptrOf w] 155) := by
    have := push_new (H := H2.push (.cells #[.slice none 0 0] 32)) (x := .cells #[ptrOf w] 155)
    simpa using this
  have s4 : ((H2.push (.cells #[.slice none 0 0] 32)).push (.cells #[ptrOf w] 155)).size = H2.size + 2 := by simp
  obtain ⟨H4, hH4⟩ : ∃ H4, H4 = ((H2.push (.cells #[.slice none 0 0] 32)).push (.cells #[ptrOf w] 155)) := ⟨_, rfl⟩
  rw [← hH4] at x4 k10 kc s4 ⊢
  clear hH4
  have x14 : Ext H H4 := Upto.ext x12 x12.size x4
  have k4 := x4.old k4
  have k5 := x4.old k5
  have k6 := x4.old k6
  have h4 := h2.ext x4
  have hw4 : RdH H4 w b (openF s n).1 := x4.old hwR
  have ou4 := ou.ext x4
  refine RangeRI.by mixed (gf := 209) (lb := #[ptrOf (H2.size + 1)]) (by simp only [go_sem, ↓reduceIte, Nat.reduceEqDiff, Nat.reduceLeDiff, Nat.reduceAdd, Nat.reduceMul, Nat.reduceSub, Nat.reduceBEq, Nat.reduceGT, Nat.reduceLT, Int.reduceLE, Int.reduceLT, Int.reduceNeg, reduceCtorEq, ptrOf]) (by simp only [go_sem, ↓reduceIte, Nat.reduceEqDiff, Nat.reduceLeDiff, Nat.reduceAdd, Nat.reduceMul, Nat.reduceSub, Nat.reduceBEq, Nat.reduceGT, Nat.reduceLT, Int.reduceLE, Int.reduceLT, Int.reduceNeg, reduceCtorEq]) (by decide) ?_
  intro r hy
  show Fun _ _ #[_, _] _ _
  have x45 : Ext H4 ((H4.push (.deferred (some []))).push (.loop r)) := Upto.push (Ext.push _) (by simp) _
  have kD : ((H4.push (.deferred (some []))).push (.loop r))[H4.size]? = some (.deferred (some [])) := by rw [push_old (by simp)]; exact push_new
  have kl : ((H4.push (.deferred (some []))).push (.loop r))[H4.size + 1]? = some (.loop r) := by
    have := push_new (H := H4.push (.deferred (some []))) (x := .loop r)
    simpa using this
  have s5 : ((H4.push (.deferred (some []))).push (.loop r)).size = H4.size + 2 := by simp
  obtain ⟨H5, hH5⟩ : ∃ H5, H5 = ((H4.push (.deferred (some []))).push (.loop r)) := ⟨_, rfl⟩
  rw [← hH5] at x45 kD kl s5 ⊢
  clear hH5
  have k10 := x45.old k10
  have kc := x45.old kc
  have k4 := x45.old k4
  have k5 := x45.old k5
  have k6 := x45.old k6
  have h5 := h4.ext x45
  have hw5 := x45.old hw4
  have ou5 := ou4.ext x45
  have x15 : Ext H H5 := Upto.ext x14 x14.size x45
  have hFlt : ∀ g, F g → g < H.size := fun g hg => by obtain ⟨_, _, _, _, _, hP⟩ := h; exact hP.lt _ hg
  have hs : H.size ≤ H1.size := x1.size
  have hop := open_at ok n (Classical.not_not.1 c0)
  have hwlt : w < H2.size := (Array.getElem?_eq_some_iff.1 hwR).1
  refine F209 (σ := RdS × List (List Int)) (S := fun _ => s) (X := Prod.fst) (Fp := fun _ => F) (b := b) (w := w) (c := H2.size + 1) (l := H4.size + 1)
    (J := fun a Hh => (∀ g, g < H5.size → g ≠ w → g ≠ H2.size → Hh[g]? = H5[g]?) ∧ H5.size ≤ Hh.size ∧ RdH Hh w b a.1 ∧ (∃ v, Hh[H2.size]? = some (.cells #[v] 32) ∧ OwnLists Hh H5.size 53 5 v a.2) ∧ 12 ≤ a.1.at' ∧ a.1.at' ≤ 2147483647 ∧ a.1.data = a.2.length ∧ a.1.data ≤ a.1.at' ∧
      ∀ l e, Rest s a.1 l e → Rest s (openF s n).1 (a.2 ++ l) e) ((openF s n).1, []) ?_ ?_ ?_
  · refine ⟨fun _ _ _ _ => rfl, Nat.le_refl _, hw5, ⟨_, k10, OwnLists.nil⟩, hop.1, hop.2.1, by simp [hop.2.2.1], by have := hop.2.2.1; have := hop.1; simp only; omega, fun l e hR => by simpa using hR⟩
  · rintro ⟨x, acc⟩ Hh ⟨j1, j2, j3, ⟨v, j4, j5⟩, j6, j7, j8, j9, j10⟩
    simp only at j3 j5 j6 j7 j8 j9 j10 ⊢
    have hc : Hh[H2.size + 1]? = some (.cells #[ptrOf w] 155) := by rw [j1 _ (by omega) (by omega) (by omega)]; exact kc
    refine ⟨?_, ok, j3, fun e => by have := hFlt _ e; omega, ?_, by omega, j7, by omega, j9, hc⟩
    · obtain ⟨_, _, _, _, _, hP⟩ := h5
      exact ⟨_, _, _, _, _, hP.keep j2 fun g hg => j1 g (by have := hFlt _ hg; omega) (by have := hFlt _ hg; omega) (by have := hFlt _ hg; omega)⟩
    · obtain ⟨t, fr, ht5⟩ := ht.ext x15
      have := (Array.getElem?_eq_some_iff.1 (ht.choose_spec.choose_spec)).1
      exact ⟨t, fr, by rw [j1 0 (by omega) (by omega) (by omega)]; exact ht5⟩
  · rintro ⟨x, acc⟩ Hh Hn u ⟨j1, j2, j3, ⟨v, j4, j5⟩, j6, j7, j8, j9, j10⟩ hf1 hw1 cx on
    simp only at j3 j5 j6 j7 j8 j9 j10 hf1 hw1 cx on ⊢
    have eH : ∀ g, g < H5.size → g ≠ w → g ≠ H2.size → Hn[g]? = H5[g]? := fun g h1 h2 h3 => (cx.get g (by omega) (fun e => e) h2).trans (j1 g h1 h2 h3)
    have nl : Hn[H4.size + 1]? = some (.loop r) := by rw [eH _ (by omega) (by omega) (by omega)]; exact kl
    have n10 : Hn[H2.size]? = some (.cells #[v] 32) := cx.keep j4 (fun e => e) (by omega)
    have n4 : Hn[H.size]? = some (.cells #[.slice none 0 0] 53) := by rw [eH _ (by omega) (by omega) (by omega)]; exact k4
    have n5 : Hn[H.size + 1]? = some (.cells #[.slice none 0 0] 32) := by rw [eH _ (by omega) (by omega) (by omega)]; exact k5
    have n6 : Hn[H.size + 1 + 1]? = some (.cells #[.int .i64 0] 54) := by rw [eH _ (by omega) (by omega) (by omega)]; exact k6
    have nD : Hn[H4.size]? = some (.deferred (some [])) := by rw [eH _ (by omega) (by omega) (by omega)]; exact kD
    obtain ⟨q, hq⟩ : ∃ q, q = nextR s x := ⟨_, rfl⟩
    have hRe := @Rest.err s x
    have hRd := @Rest.done s x
    have hRm := @Rest.more s x
    have hnm := nextR_more ok (x := x) (by omega)
    rw [← hq] at hRe hRd hRm hnm hw1 on ⊢
    clear hq
    obtain ⟨ua, ul, uc, rfl⟩ := on.sl.form
    by_cases c1 : q.2.2.2 ≠ 0
    · rw [if_pos c1]
      refine hy nl rfl ?_
      simp only [c42_L0, c42_L1, go_sem, ↓reduceIte, Nat.reduceEqDiff, Nat.reduceLeDiff, Nat.reduceAdd, Nat.reduceMul, Nat.reduceSub, Nat.reduceBEq, Nat.reduceGT, Nat.reduceLT, Int.reduceLE, Int.reduceLT, Int.reduceNeg, reduceCtorEq, zipL, Array.toList_zip, List.zip, List.zipWith]
      simp only [c1, not_false_eq_true, true_imp_iff, false_imp_iff, and_true]
      have b4 : (hset Hn (H4.size + 1) (.loop { r with state := .busy }))[H.size]? = _ := (hset_other (by omega)).trans n4
      have b5 : (hset Hn (H4.size + 1) (.loop { r with state := .busy }))[H.size + 1]? = _ := (hset_other (by omega)).trans n5
      have b6 : (hset Hn (H4.size + 1) (.loop { r with state := .busy }))[H.size + 1 + 1]? = _ := (hset_other (by omega)).trans n6
      have bl : (hset Hn (H4.size + 1) (.loop { r with state := .busy }))[H4.size + 1]? = _ := hset_same nl
      have bD : (hset Hn (H4.size + 1) (.loop { r with state := .busy }))[H4.size]? = _ := (hset_other (by omega)).trans nD
      have bx : ∀ g, g < H.size → (hset Hn (H4.size + 1) (.loop { r with state := .busy }))[g]? = H[g]? := fun g hg => by
        rw [hset_other (by omega), eH g (by omega) (by omega) (by omega), x15.get g hg]
      have bs : H5.size ≤ (hset Hn (H4.size + 1) (.loop { r with state := .busy })).size := by rw [hset_size]; have := cx.size; omega
      refine ⟨nl, rfl, hcan_of b4 (by simp), rfl, hcan_of ((hput_other _ _ _ _ (by omega)).trans b5) (by simp), rfl, hcan_of ((hput_other _ _ _ _ (by omega)).trans ((hput_other _ _ _ _ (by omega)).trans b6)) (by simp), ?_, .inr ⟨.ret, by simp, ?_, ?_⟩⟩
      · rw [hput_other _ _ _ _ (by omega), hput_other _ _ _ _ (by omega), hput_other _ _ _ _ (by omega)]; exact bl
      · refine hset_same (o' := .loop { r with state := .busy }) ?_
        rw [hput_other _ _ _ _ (by omega), hput_other _ _ _ _ (by omega), hput_other _ _ _ _ (by omega)]; exact bl
      · simp only [go_sem, ↓reduceIte, Nat.reduceEqDiff, Nat.reduceLeDiff, Nat.reduceAdd, Nat.reduceMul, Nat.reduceSub, Nat.reduceBEq, Nat.reduceGT, Nat.reduceLT, Int.reduceLE, Int.reduceLT, Int.reduceNeg, reduceCtorEq]
        rw [doneR_cons]
        simp only [go_sem, ↓reduceIte, Nat.reduceEqDiff, Nat.reduceLeDiff, Nat.reduceAdd, Nat.reduceMul, Nat.reduceSub, Nat.reduceBEq, Nat.reduceGT, Nat.reduceLT, Int.reduceLE, Int.reduceLT, Int.reduceNeg, reduceCtorEq]
        refine ⟨?_, load1 ty53 rfl (a := .slice none 0 0) ?_ (load1 ty32 rfl (a := .slice none 0 0) ?_ (load1 ty54 rfl (a := .int .i64 q.2.2.2) ?_ ?_))⟩
        · simp (disch := omega) only [hset_other, hput_other, bD]
        · simp (disch := omega) only [hset_other, hput_other]
          rw [hput_same b4]; rfl
        · simp (disch := omega) only [hset_other, hput_other]
          rw [hput_same ((hput_other _ _ _ _ (by omega)).trans b5)]; rfl
        · simp (disch := omega) only [hset_other]
          rw [hput_same ((hput_other _ _ _ _ (by omega)).trans ((hput_other _ _ _ _ (by omega)).trans b6))]; rfl
        · refine ⟨[], [], q.2.2.2, _, _, rfl, ?_, ⟨?_, fun g hg => ?_⟩, .inl ⟨rfl, rfl⟩, OwnLists.nil⟩
          · unfold Loads
            rw [if_neg c0]
            exact ⟨_, _, j10 _ _ (hRe c1), rfl, by rw [if_pos c1]; exact ⟨rfl, rfl⟩⟩
          · simp only [hset_size, hput_size]; have := cx.size; omega
          · simp (disch := omega) only [hset_other, hput_other, bx]
    rw [if_neg c1]
    have c1' := Classical.not_not.1 c1
    by_cases c2 : q.2.2.1 = true
    · rw [if_pos c2]
      refine hy nl rfl ?_
      simp only [c42_L0, c42_L1, go_sem, ↓reduceIte, Nat.reduceEqDiff, Nat.reduceLeDiff, Nat.reduceAdd, Nat.reduceMul, Nat.reduceSub, Nat.reduceBEq, Nat.reduceGT, Nat.reduceLT, Int.reduceLE, Int.reduceLT, Int.reduceNeg, reduceCtorEq, zipL, Array.toList_zip, List.zip, List.zipWith]
      have b10 : (hset Hn (H4.size + 1) (.loop { r with state := .busy }))[H2.size]? = _ := (hset_other (by omega)).trans n10
      have bl : (hset Hn (H4.size + 1) (.loop { r with state := .busy }))[H4.size + 1]? = _ := hset_same nl
      have bsz : (hset Hn (H4.size + 1) (.loop { r with state := .busy })).size = Hn.size := hset_size _ _ _
      have bx : ∀ g, g ≠ H4.size + 1 → (hset Hn (H4.size + 1) (.loop { r with state := .busy }))[g]? = Hn[g]? := fun g hg => hset_other hg
      obtain ⟨Hb, hHb⟩ : ∃ Hb, Hb = hset Hn (H4.size + 1) (.loop { r with state := .busy }) := ⟨_, rfl⟩
      rw [← hHb] at b10 bl bsz bx ⊢
      clear hHb
      have g10 : hget Hb H2.size 0 = some v := hget_cells b10
      have cs := cx.size
      obtain ⟨va, vc, rfl⟩ := j5.lists.form
      simp only [go_sem, ↓reduceIte, Nat.reduceEqDiff, Nat.reduceLeDiff, Nat.reduceAdd, Nat.reduceMul, Nat.reduceSub, Nat.reduceBEq, Nat.reduceGT, Nat.reduceLT, Int.reduceLE, Int.reduceLT, Int.reduceNeg, reduceCtorEq, g10]
      refine ⟨nl, ?_⟩
      refine RunI.by (append_list2 ty32 ty53 (by decide) j5 (by omega) (fun g h1 h2 => ?_) (ys := q.2.1) (on.keep fun g hg => bx g (by have := (on.blk hg).1; omega)) j2 (by omega)) ?_
      · rw [bx g (by omega), cx.get g h2 (fun e => e) (by omega)]
      rintro v2 Hp ⟨o2, up⟩
      obtain ⟨va2, vc2, rfl⟩ := o2.lists.form
      have p10 : Hp[H2.size]? = _ := (up.get _ (by omega)).trans b10
      have pl' : Hp[H4.size + 1]? = _ := (up.get _ (by omega)).trans bl
      simp only [go_sem, ↓reduceIte, Nat.reduceEqDiff, Nat.reduceLeDiff, Nat.reduceAdd, Nat.reduceMul, Nat.reduceSub, Nat.reduceBEq, Nat.reduceGT, Nat.reduceLT, Int.reduceLE, Int.reduceLT, Int.reduceNeg, reduceCtorEq]
      refine ⟨rfl, hcan_of p10 (by simp), ?_, true, rfl, ?_⟩
      · rw [hput_other _ _ _ _ (by omega)]; exact pl'
      rw [if_pos rfl]
      obtain ⟨m1, m2, m3, m4⟩ := hnm c2
      refine ⟨(q.1, acc ++ [q.2.1]), ⟨fun g h1 h2 h3 => ?_, ?_, ?_, ⟨.slice va2 (acc ++ [q.2.1]).length vc2, ?_, ?_⟩, ?_, m2, ?_, ?_, fun l e hR => ?_⟩, rfl⟩
      · by_cases hg : g = H4.size + 1
        · subst hg
          rw [hset_same ((hput_other _ _ _ _ (by omega)).trans pl'), kl]
        · rw [hset_other hg, hput_other _ _ _ _ h3, up.get g h1, bx g hg, eH g h1 h2 h3]
      · rw [hset_size, hput_size]; have := up.size; omega
      · unfold RdH
        rw [hset_other (by omega), hput_other _ _ _ _ (by omega), up.get w (by omega), bx w (by omega)]; exact hw1
      · rw [hset_other (by omega), hput_same p10]; rfl
      · exact ownl_keep o2 fun g h1 h2 => by rw [hset_other (by omega), hput_other _ _ _ _ (by omega)]
      · simp only; omega
      · simp only [List.length_append, List.length_cons, List.length_nil]; omega
      · simp only; omega
      · have := j10 _ _ (hRm c1' c2 hR)
        simpa using this
    rw [if_neg c2]
    have c2' : q.2.2.1 = false := by simpa using c2
    refine .inl ⟨nl, ?_⟩
    have b4 : (hset Hn (H4.size + 1) (.loop { r with state := .exhausted }))[H.size]? = _ := (hset_other (by omega)).trans n4
    have b5 : (hset Hn (H4.size + 1) (.loop { r with state := .exhausted }))[H.size + 1]? = _ := (hset_other (by omega)).trans n5
    have b6 : (hset Hn (H4.size + 1) (.loop { r with state := .exhausted }))[H.size + 1 + 1]? = _ := (hset_other (by omega)).trans n6
    have bD : (hset Hn (H4.size + 1) (.loop { r with state := .exhausted }))[H4.size]? = _ := (hset_other (by omega)).trans nD
    have b10 : (hset Hn (H4.size + 1) (.loop { r with state := .exhausted }))[H2.size]? = _ := (hset_other (by omega)).trans n10
    have bx : ∀ g, g ≠ H4.size + 1 → (hset Hn (H4.size + 1) (.loop { r with state := .exhausted }))[g]? = Hn[g]? := fun g hg => hset_other hg
    have bsz : (hset Hn (H4.size + 1) (.loop { r with state := .exhausted })).size = Hn.size := hset_size _ _ _
    obtain ⟨Hb, hHb⟩ : ∃ Hb, Hb = hset Hn (H4.size + 1) (.loop { r with state := .exhausted }) := ⟨_, rfl⟩
    rw [← hHb] at b4 b5 b6 bD b10 bsz bx ⊢
    clear hHb
    have g10 : hget Hb H2.size 0 = some v := hget_cells b10
    obtain ⟨va, vc, rfl⟩ := j5.lists.form
    simp only [go_sem, ↓reduceIte, Nat.reduceEqDiff, Nat.reduceLeDiff, Nat.reduceAdd, Nat.reduceMul, Nat.reduceSub, Nat.reduceBEq, Nat.reduceGT, Nat.reduceLT, Int.reduceLE, Int.reduceLT, Int.reduceNeg, reduceCtorEq]
    refine drawn_at (fun x => x = H2.size) ?_
    simp only [go_sem, ↓reduceIte, Nat.reduceEqDiff, Nat.reduceLeDiff, Nat.reduceAdd, Nat.reduceMul, Nat.reduceSub, Nat.reduceBEq, Nat.reduceGT, Nat.reduceLT, Int.reduceLE, Int.reduceLT, Int.reduceNeg, reduceCtorEq, g10]
    refine ⟨rfl, hcan_of b4 (by simp), kept_put (kept_refl _ _) (by omega), rfl, hcan_of ((hput_other _ _ _ _ (by omega)).trans b5) (by simp), kept_put (kept_put (kept_refl _ _) (by omega)) (by omega), rfl,
      hcan_of ((hput_other _ _ _ _ (by omega)).trans ((hput_other _ _ _ _ (by omega)).trans b6)) (by simp), kept_put (kept_put (kept_put (kept_refl _ _) (by omega)) (by omega)) (by omega), ?_⟩
    rw [doneR_cons]
    simp only [go_sem, ↓reduceIte, Nat.reduceEqDiff, Nat.reduceLeDiff, Nat.reduceAdd, Nat.reduceMul, Nat.reduceSub, Nat.reduceBEq, Nat.reduceGT, Nat.reduceLT, Int.reduceLE, Int.reduceLT, Int.reduceNeg, reduceCtorEq]
    refine ⟨?_, load1 ty53 rfl (a := .slice pa pl pc) ?_ (load1 ty32 rfl (a := .slice va acc.length vc) ?_ (load1 ty54 rfl (a := .int .i64 0) ?_ ?_))⟩
    · simp (disch := omega) only [hput_other, bD]
    · simp (disch := omega) only [hset_other, hput_other]
      rw [hput_same b4]; rfl
    · simp (disch := omega) only [hset_other, hput_other]
      rw [hput_same ((hput_other _ _ _ _ (by omega)).trans b5)]; rfl
    · simp (disch := omega) only [hset_other]
      rw [hput_same ((hput_other _ _ _ _ (by omega)).trans ((hput_other _ _ _ _ (by omega)).trans b6))]; rfl
    · refine ⟨(openF s n).2.1, acc, 0, _, _, rfl, ?_, ⟨?_, fun g hg => ?_⟩, (ou5.mono hs).keep fun g hg => ?_, ownl_mono (ownl_keep j5 fun g g1 g2 => ?_) (by omega)⟩
      · unfold Loads
        rw [if_neg c0]
        exact ⟨_, _, j10 _ _ (hRd c1' c2'), rfl, by rw [if_neg (by decide)]; exact ⟨rfl, by simp⟩⟩
      · simp only [hset_size, hput_size]; have := cx.size; omega
      · simp (disch := omega) only [hset_other, hput_other]
        rw [bx g (by omega), eH g (by omega) (by omega) (by omega), x15.get g hg]
      · obtain ⟨q1, q2, c, q3⟩ := ou5.blk hg
        have q4 := (ou.blk hg).2.1
        have q5 : g ≠ w := tag_ne q3 hw5 (by decide)
        simp (disch := omega) only [hset_other, hput_other]
        rw [bx g (by omega), eH g (by omega) q5 (by omega)]
      · simp (disch := omega) only [hset_other, hput_other]
        rw [bx g (by omega), cx.get g g2 (fun e => e) (by omega)]
end
end Go.Proofs.YtgigigchjnnonaaGreatDoor
