/- The law CkptKeeps, over heaps. -/
import Derived.Test.YtgigigchjnnonaaDoorVCkF
import Derived.Test.YtgigigchjnnonaaDoorVCodeL
set_option linter.unusedSimpArgs false
set_option linter.unusedVariables false
set_option maxRecDepth 20000
namespace Go.Proofs.YtgigigchjnnonaaDoor
open Go Go.V
-- 3: pith/pithlaw18.CkptKeeps
-- 5: pith/pithlaw18.first
-- 6: pith/fs.New
-- 7: pith/pithlaw18.fitting
-- 8: pith/ckpt.Save
-- 10: pith/ckpt.Load
-- 9: pith/pithref.Ints
-- 11: pith/pithref.SameCheck
-- 12: pith/pithlaw18.num
-- 22: []int
-- 23: []bool
-- 3: int
-- 4: bool
-- 28: pith/api.Check
/-- What stands ahead of each Load: the file system, the checkpoint, the degrees. -/
structure KeepC (H X : Heap) (F : Nat → Prop) (b g : Nat) (s : St) (p : Int) (av cv dv : Value) (xs deg : List Int) (es : List Bool) : Prop where
  N : Newly H X F
  fs : FsH X F b s
  lo : H.size ≤ g
  nf : ¬ F g
  k : X[g]? = some (.cells #[.int .i64 p, av, cv] 28)
  oa : OwnA X F H.size 3 av (xs.map (.int .i64))
  oc : OwnA X F H.size 4 cv (es.map .bool)
  od : OwnA X F H.size 3 dv (deg.map (.int .i64))
theorem KeepC.ext {H X X' : Heap} {F : Nat → Prop} {b g : Nat} {s : St} {p : Int} {av cv dv : Value} {xs deg : List Int} {es : List Bool} (h : KeepC H X F b g s p av cv dv xs deg es) (x : Ext X X') : KeepC H X' F b g s p av cv dv xs deg es :=
  ⟨h.N.ext x, h.fs.ext x, h.lo, h.nf, (x.get _ (Array.getElem?_eq_some_iff.1 h.k).1).trans h.k, h.oa.ext x, h.oc.ext x, h.od.ext x⟩
theorem KeepC.gets {H X : Heap} {F : Nat → Prop} {b g : Nat} {s : St} {p : Int} {av cv dv : Value} {xs deg : List Int} {es : List Bool} (h : KeepC H X F b g s p av cv dv xs deg es) : hget X g 0 = some (.int .i64 p) ∧ hget X g 1 = some av ∧ hget X g 2 = some cv := by
  rw [hget_cells h.k, hget_cells h.k, hget_cells h.k]; exact ⟨rfl, rfl, rfl⟩
/-- What is loaded of generation 3, and of generation 4. -/
structure KeepL (s : St) (p : Int) (xs : List Int) (es : List Bool) : Prop where
  pc : Peace s
  m : mayC 3 p xs es = true
  three : ∀ hd l e, Loads s (nameS 3) hd l e → hd = chkHead 3 p xs es ∧ l = chkData xs es ∧ e = 0
  four : ∀ hd l e, Loads s (nameS 4) hd l e → hd = [] ∧ l = [] ∧ e = 82
  len : xs.length ≤ 5000
theorem KeepL.k3 {s : St} {p : Int} {xs : List Int} {es : List Bool} (h : KeepL s p xs es) : ∀ hd l e, Loads s (nameS 3) hd l e → Byt hd ∧ (∀ y ∈ l, Byt y ∧ y.length ≤ 140737488350000) ∧ l.length ≤ 1000000000 := by
  intro hd l e hL
  obtain ⟨e1, e2, _⟩ := h.three hd l e hL
  have cl := chk_len (ds := es) h.len
  rw [e1, e2]
  exact ⟨head_wf _ _ _ _, fun y hy => ⟨(chk_byt h.m y hy).2, by have := (chk_byt h.m y hy).1; omega⟩, by omega⟩
theorem KeepL.k4 {s : St} {p : Int} {xs : List Int} {es : List Bool} (h : KeepL s p xs es) : ∀ hd l e, Loads s (nameS 4) hd l e → Byt hd ∧ (∀ y ∈ l, Byt y ∧ y.length ≤ 140737488350000) ∧ l.length ≤ 1000000000 := by
  intro hd l e hL
  obtain ⟨e1, e2, _⟩ := h.four hd l e hL
  rw [e1, e2]
  exact ⟨fun y hy => (by cases hy), fun y hy => (by cases hy), by simp⟩
section
variable {H X : Heap} {F : Nat → Prop} {n b g a2 c2 d2 : Nat} {s : St} {p at' : Int} {xs deg : List Int} {es : List Bool} {a1 c1 d1 : Option Addr} {ρ : Env}
/-- Load of another generation; a degree below its bound. -/
theorem F3_16 (C : KeepC H X F b g s p (.slice a1 xs.length a2) (.slice c1 es.length c2) (.slice d1 deg.length d2) xs deg es) (L : KeepL s p xs es) (ht : CrcTab H) (tab : Tab H) (hxd : xs.length = deg.length)
    (e3 : ρ 3 = .int .i64 at') (e10 : ρ 10 = .pointer (some ⟨b, 0, none⟩)) (e11 : ρ 11 = .pointer (some ⟨g, 0, none⟩)) (e12 : ρ 12 = .slice d1 deg.length d2) (e20 : ρ 20 = .bool false) (e21 : ρ 21 = .int .i64 0) (e23 : ρ 23 = .bool false) (e24 : ρ 24 = .int .i64 0) :
    @vcI Tryd.prog (tyOf Tryd.prog) n c3_S16 ρ X ⟨finV (tyOf Tryd.prog) [.tmp 8] (fun r H' => r = .bool true ∧ Ext H H')⟩ := by
  obtain ⟨j0, j1, j2⟩ := C.gets
  have hl5 := L.len
  simp only [go_sem, ↓reduceIte, Nat.reduceEqDiff, Nat.reduceLeDiff, Nat.reduceAdd, Nat.reduceMul, Nat.reduceSub, Nat.reduceBEq, Nat.reduceGT, Nat.reduceLT, Int.reduceLE, Int.reduceLT, Int.reduceNeg, reduceCtorEq, c3_S16, c3_S17, c3_S20, c3_S23, c3_S24, c3_S25, c3_S26, e3, e10, e11, e12, e20, e21, e23, e24, j2]
  refine FunI.by (F10 _ 4 (es.length : Nat) deg X C.fs L.pc.ok L.pc.on (C.N.stg0 ht).2 (tab.ext C.N.1) C.od.own.sl (by omega) L.k4) ?_
  rintro _ H17 ⟨x17, hd, l, e, hL, hr⟩
  obtain ⟨rfl, rfl, rfl⟩ := L.four _ _ _ hL
  rw [cloadS_bad (by decide)] at hr
  subst hr
  simp only [go_sem, ↓reduceIte, Nat.reduceEqDiff, Nat.reduceLeDiff, Nat.reduceAdd, Nat.reduceMul, Nat.reduceSub, Nat.reduceBEq, Nat.reduceGT, Nat.reduceLT, Int.reduceLE, Int.reduceLT, Int.reduceNeg, reduceCtorEq, ptrOf, hput_push3, hcan_push, List.all_cons, List.all_nil, Value.oneCell']
  obtain ⟨H18, hH18⟩ : ∃ G, G = H17.push (.cells #[.int .i64 0, .slice none 0 0, .slice none 0 0] 28) := ⟨_, rfl⟩
  have x18 : Ext X H18 := by rw [hH18]; exact x17.trans ((Ext.push _).mono x17.size)
  rw [← hH18]
  have C8 := C.ext x18
  obtain ⟨i0, i1, i2⟩ := C8.gets
  simp only [go_sem, ↓reduceIte, Nat.reduceEqDiff, Nat.reduceLeDiff, Nat.reduceAdd, Nat.reduceMul, Nat.reduceSub, Nat.reduceBEq, Nat.reduceGT, Nat.reduceLT, Int.reduceLE, Int.reduceLT, Int.reduceNeg, reduceCtorEq, e3, e10, e11, e12, e20, e21, e23, e24]
  repeat (refine FunI.by (F12 _ _) ?_; rintro _ _ ⟨rfl, rfl⟩; simp only [go_sem, ↓reduceIte, Nat.reduceEqDiff, Nat.reduceLeDiff, Nat.reduceAdd, Nat.reduceMul, Nat.reduceSub, Nat.reduceBEq, Nat.reduceGT, Nat.reduceLT, Int.reduceLE, Int.reduceLT, Int.reduceNeg, reduceCtorEq, ptrOf, Int.reduceEq, e3, e10, e11, e12, e20, e21, e23, e24])
  by_cases h0 : deg.length = 0
  · have c0 : ((deg.length : Int) = 0) = True := eq_true (by omega)
    simp only [c0, true_implies, not_true, false_implies, and_true]
    exact C8.N.1
  · have c0 : ((deg.length : Int) = 0) = False := eq_false (by omega)
    obtain ⟨q0, q1, q2, q3, q4⟩ := pick_nums at' deg.length (by omega) (by omega)
    obtain ⟨k, hk⟩ : ∃ k, k = pickN at' deg.length := ⟨_, rfl⟩
    rw [← hk] at q0 q1 q4
    have ia := C8.oa.own.sl
    obtain ⟨ab, ao, rfl⟩ := Ints.at (xs := xs) (k := .i64) ia (i := k) (by omega)
    obtain ⟨db, dn, rfl⟩ := Ints.at (xs := deg) (k := .i64) C8.od.own.sl (i := k) (by omega)
    have g1 := Ints.get (xs := xs) (k := .i64) ia (i := k) (by omega)
    obtain ⟨r1, r2, r3, r4, r5⟩ := C8.od.own.store (i := k) (by omega) (.int .i64 (xs.getD k 0 - 1))
    have bx : 0 ≤ xs.getD k 0 ∧ xs.getD k 0 < 16777216 := (mayC_iff.1 L.m).2.2.2.2.2.2 _ (by rw [List.getD_eq_getElem?_getD, List.getElem?_eq_getElem (by omega)]; exact List.getElem_mem _)
    have w1 : IntKind.i64.wrap (xs.getD k 0 - 1) = xs.getD k 0 - 1 := w64_id (by omega) (by omega)
    have k0 : (0 : Int) ≤ k := by omega
    have k1 : (k : Int) < xs.length := by omega
    have k2 : (k : Int) < deg.length := by omega
    simp only [go_sem, ↓reduceIte, Nat.reduceEqDiff, Nat.reduceLeDiff, Nat.reduceAdd, Nat.reduceMul, Nat.reduceSub, Nat.reduceBEq, Nat.reduceGT, Nat.reduceLT, Int.reduceLE, Int.reduceLT, Int.reduceNeg, reduceCtorEq, e3, e10, e11, e12, c0, q1, q2, q3, q4, i1, k0, k1, k2, g1, w1, r2, Int.toNat_natCast, not_false_eq_true, true_implies, false_implies, true_and, ne_eq]
    refine ⟨rfl, ?_⟩
    have ne : g ≠ db := fun e => by
      obtain ⟨_, _, c, hc⟩ := C8.od.own.blk (g := db) rfl
      exact tag_ne C8.k hc (by decide) e
    have nF : ¬ F db := C8.od.aw db rfl
    obtain ⟨H19, hH19⟩ : ∃ G, G = hput H18 db (dn + k) [.int .i64 (xs.getD k 0 - 1)] := ⟨_, rfl⟩
    rw [← hH19] at r3 r4 ⊢
    have k9 : H19[g]? = some (.cells #[.int .i64 p, .slice (some ⟨ab, ao, none⟩) xs.length a2, .slice c1 es.length c2] 28) := by rw [hH19, hput_other _ _ _ _ ne]; exact C8.k
    have j29 : hget H19 g 2 = some (.slice c1 es.length c2) := by rw [hget_cells k9]; rfl
    have N9 : Newly H H19 F := ⟨by rw [hH19]; exact C8.N.1.hput (C8.od.own.blk (g := db) rfl).1, C8.N.2⟩
    have h9 : FsH H19 F b s := by rw [hH19]; exact C8.fs.put nF
    rw [← List.map_set] at r3
    have id9 : Ints H19 3 .i64 (.slice (some ⟨db, dn, none⟩) deg.length d2) (deg.set k (xs.getD k 0 - 1)) := r3.sl
    simp only [go_sem, ↓reduceIte, Nat.reduceEqDiff, Nat.reduceLeDiff, Nat.reduceAdd, Nat.reduceMul, Nat.reduceSub, Nat.reduceBEq, Nat.reduceGT, Nat.reduceLT, Int.reduceLE, Int.reduceLT, Int.reduceNeg, reduceCtorEq, e3, e10, e11, e12, j29]
    refine FunI.by (F10 _ 3 (es.length : Nat) (deg.set k (xs.getD k 0 - 1)) H19 h9 L.pc.ok L.pc.on (N9.stg0 ht).2 (tab.ext N9.1) id9 (by omega) L.k3) ?_
    rintro _ HA ⟨xA, hd, l, e, hL, hr⟩
    obtain ⟨rfl, rfl, rfl⟩ := L.three _ _ _ hL
    have hf : fitsC xs es (deg.set k (xs.getD k 0 - 1)) (es.length : Nat) = false := decide_eq_false (fun h => by
      have := h.2.2 k (by omega)
      rw [List.getD_eq_getElem?_getD (l := deg.set k _), List.getElem?_set_self (by omega)] at this
      simp only [Option.getD_some] at this
      omega)
    rw [cloadS_back L.m, if_neg (by rw [hf]; decide)] at hr
    subst hr
    simp only [go_sem, ↓reduceIte, Nat.reduceEqDiff, Nat.reduceLeDiff, Nat.reduceAdd, Nat.reduceMul, Nat.reduceSub, Nat.reduceBEq, Nat.reduceGT, Nat.reduceLT, Int.reduceLE, Int.reduceLT, Int.reduceNeg, reduceCtorEq, ptrOf, hput_push3, hcan_push, List.all_cons, List.all_nil, Value.oneCell']
    repeat (refine FunI.by (F12 _ _) ?_; rintro _ _ ⟨rfl, rfl⟩; simp only [go_sem, ↓reduceIte, Nat.reduceEqDiff, Nat.reduceLeDiff, Nat.reduceAdd, Nat.reduceMul, Nat.reduceSub, Nat.reduceBEq, Nat.reduceGT, Nat.reduceLT, Int.reduceLE, Int.reduceLT, Int.reduceNeg, reduceCtorEq, ptrOf, Int.reduceEq])
    exact (N9.ext (xA.trans ((Ext.push _).mono xA.size))).1
set_option maxHeartbeats 6400000 in
/-- Degrees of one more: taken in any order. -/
theorem F3_15 (C : KeepC H X F b g s p (.slice a1 xs.length a2) (.slice c1 es.length c2) (.slice d1 deg.length d2) xs deg es) (L : KeepL s p xs es) (ht : CrcTab H) (tab : Tab H) (hxd : xs.length = deg.length)
    (e3 : ρ 3 = .int .i64 at') (e10 : ρ 10 = .pointer (some ⟨b, 0, none⟩)) (e11 : ρ 11 = .pointer (some ⟨g, 0, none⟩)) (e12 : ρ 12 = .slice d1 deg.length d2) (e20 : ρ 20 = .bool false) (e21 : ρ 21 = .int .i64 0) :
    @vcI Tryd.prog (tyOf Tryd.prog) n c3_S15 ρ X ⟨finV (tyOf Tryd.prog) [.tmp 8] (fun r H' => r = .bool true ∧ Ext H H')⟩ := by
  obtain ⟨j0, j1, j2⟩ := C.gets
  have hl5 := L.len
  have step1 : ∀ {G : Heap}, Ext X G → Fun Tryd.prog 9 #[.slice d1 deg.length d2] G (fun r H' => V.Own H' G.size 3 1 r (deg.map (.int .i64)) ∧ Ext G H') := fun {G} y => F9 _ deg G (C.od.own.sl.ext y) (by omega)
  have step3 : ∀ {G : Heap} {v u : Value} {B : Nat}, V.Own G B 3 1 v (deg.map (.int .i64)) → Ints G 3 .i64 u [5] → B ≤ G.size → RunS Tryd.prog (sAppend #[22, 22] #[v, u]) G (fun v' H' => V.Own H' B 3 1 v' ((deg ++ [5]).map (.int .i64)) ∧ Upto B G H' ∧ ∀ k, k < G.size → (∀ g, blk v = some g → g ≠ k) → H'[k]? = G[k]?) := by
    intro G v u B ho hu hB
    refine (append_own ty22 ty3 rfl rfl rfl (by decide) ho hu (by simp [Value.oneCell']) (n := deg.length + 1) (by simp) (by show (deg.length + 1) * 8 ≤ _; omega) (by omega) hB).mono ?_
    rintro v' H' ⟨h1, h2, h3, h4⟩
    rw [List.map_append]
    exact ⟨h1, h2.upto (fun k hk => (ho.blk hk).1) hB, fun k hk hne => h2.get k hk fun e => hne k e.symm rfl⟩
  have step2 : ∀ {G : Heap} {v : Value}, Ext X G → Ints G 3 .i64 v (deg ++ [5]) → Fun Tryd.prog 10 #[.pointer (some ⟨b, 0, none⟩), .int .i64 3, v, .int .i64 (es.length : Nat)] G (fun r H' => r = .tuple #[.agg #[.int .i64 0, .slice none 0 0, .slice none 0 0], .bool false, .int .i64 0] ∧ Ext G H') := by
    intro G v y iv
    have NG := C.N.ext y
    refine Fun.mono (F10 _ 3 (es.length : Nat) (deg ++ [5]) G (C.fs.ext y) L.pc.ok L.pc.on (NG.stg0 ht).2 (tab.ext NG.1) iv (by omega) L.k3) ?_
    rintro r H' ⟨x, hd, l, e, hL, hr⟩
    obtain ⟨rfl, rfl, rfl⟩ := L.three _ _ _ hL
    rw [cloadS_back L.m, if_neg (by rw [show fitsC xs es (deg ++ [5]) (es.length : Nat) = false from decide_eq_false (fun h => by have := h.1; simp at this; omega)]; decide)] at hr
    exact ⟨hr, x⟩
  have extp : ∀ {A G : Heap} {x : Obj}, Ext A G → Ext A (G.push x) := fun {A G x} h => Upto.push h h.size x
  have litI : ∀ {G : Heap} {k : Nat} {fr : Nat × Nat}, G[k]? = some (.cells #[.int .i64 5] 3 fr) → Ints G 3 .i64 (.slice (some ⟨k, 0, none⟩) 1 1) [5] := by
    intro G k fr h
    refine Sl.of (c := #[.int .i64 5]) h (by omega) rfl fun i hi => ?_
    obtain rfl : i = 0 := by omega
    rfl
  simp only [go_sem, ↓reduceIte, Nat.reduceEqDiff, Nat.reduceLeDiff, Nat.reduceAdd, Nat.reduceMul, Nat.reduceSub, Nat.reduceBEq, Nat.reduceGT, Nat.reduceLT, Int.reduceLE, Int.reduceLT, Int.reduceNeg, reduceCtorEq, c3_S15, ptrOf, ext_push, ext_refl, e3, e10, e11, e12, e20, e21, j2]
  refine ⟨?_, ⟨?_, ?_, ?_⟩, ?_, ?_, ?_⟩
  all_goals first
    | (repeat' first | exact Upto.refl _ _ | apply extp
       done)
    | (refine FunI.by (step1 (by repeat' first | exact Upto.refl _ _ | apply extp)) ?_
       rintro w13 H13 ⟨o13, x13⟩
       obtain ⟨p13, l13, rfl⟩ := Ints.form (xs := deg) (k := .i64) o13.sl
       have z13 := x13.size
       have y13 : Ext X H13 := Upto.trans (by repeat' first | exact Upto.refl _ _ | apply extp) (x13.mono (by first | omega | (simp <;> omega)))
       try simp only [Array.size_push] at z13
       simp only [go_sem, ↓reduceIte, Nat.reduceEqDiff, Nat.reduceLeDiff, Nat.reduceAdd, Nat.reduceMul, Nat.reduceSub, Nat.reduceBEq, Nat.reduceGT, Nat.reduceLT, Int.reduceLE, Int.reduceLT, Int.reduceNeg, reduceCtorEq, ptrOf, ext_push, ext_refl, e3, e10, e11, e12, e20, e21, y13]
       repeat' first
         | exact y13
         | (refine RunI.by (step3 (o13.ext (by repeat' first | exact Upto.refl _ _ | apply extp)) (litI (by
              first
              | exact push_new
              | exact (push_old (by simp)).trans push_new
              | exact (x13.get _ (by first | omega | (simp <;> omega))).trans push_new
              | exact (x13.get _ (by first | omega | (simp <;> omega))).trans ((push_old (by simp)).trans push_new)
              | exact (push_old (by omega)).trans ((x13.get _ (by first | omega | (simp <;> omega))).trans push_new))) (by first | omega | (simp <;> omega))) ?_
            rintro w14 H14 ⟨o14, x14, gr14⟩
            obtain ⟨p14, l14, rfl⟩ := Ints.form (xs := deg ++ [5]) (k := .i64) o14.sl
            have y14 : Ext X H14 := Upto.trans (by repeat' first | exact y13 | apply extp) (x14.mono (by first | omega | (simp <;> omega)))
            have z14 := y14.size
            have y1314 := x14.size
            try simp only [Array.size_push] at y1314
            simp only [go_sem, ↓reduceIte, Nat.reduceEqDiff, Nat.reduceLeDiff, Nat.reduceAdd, Nat.reduceMul, Nat.reduceSub, Nat.reduceBEq, Nat.reduceGT, Nat.reduceLT, Int.reduceLE, Int.reduceLT, Int.reduceNeg, reduceCtorEq, ptrOf, ext_push, ext_refl, e3, e10, e11, e12, e20, e21, y14])
         | (refine FunI.by (step2 (by repeat' first | exact y14 | apply extp) (Ints.ext (xs := deg ++ [5]) (k := .i64) o14.sl (by repeat' first | exact Upto.refl _ _ | apply extp))) ?_
            rintro _ H15 ⟨rfl, x15⟩
            have y15 : Ext X H15 := Upto.trans (by repeat' first | exact y14 | apply extp) (x15.mono (by first | omega | (simp <;> omega)))
            simp only [go_sem, ↓reduceIte, Nat.reduceEqDiff, Nat.reduceLeDiff, Nat.reduceAdd, Nat.reduceMul, Nat.reduceSub, Nat.reduceBEq, Nat.reduceGT, Nat.reduceLT, Int.reduceLE, Int.reduceLT, Int.reduceNeg, reduceCtorEq, ptrOf, ext_push, ext_refl, e3, e10, e11, e12, e20, e21, y15, hput_push3, hcan_push, List.all_cons, List.all_nil, Value.oneCell'])
         | exact y14
         | exact y15
         | (refine hcan_of (c := #[.int .i64 0, .slice none 0 0, .slice none 0 0]) (e := 28) ?_ (by simp)
            first
            | exact (x15.get _ (by simp)).trans push_new
            | exact (x15.get _ (by first | omega | (simp <;> omega))).trans ((gr14 _ (by first | omega | (simp <;> omega)) (fun g hg => by have h1 := (o13.blk hg).1; have h2 := (o13.blk hg).2.1; (try simp only [Array.size_push] at h1 ⊢); omega)).trans push_new)
            | exact (x15.get _ (by first | omega | (simp <;> omega))).trans ((gr14 _ (by first | omega | (simp <;> omega)) (fun g hg => by have h1 := (o13.blk hg).1; have h2 := (o13.blk hg).2.1; (try simp only [Array.size_push] at h1 ⊢); omega)).trans ((push_old (by simp)).trans push_new))
            | exact (x15.get _ (by first | omega | (simp <;> omega))).trans ((gr14 _ (by first | omega | (simp <;> omega)) (fun g hg => by have h1 := (o13.blk hg).1; have h2 := (o13.blk hg).2.1; (try simp only [Array.size_push] at h1 ⊢); omega)).trans ((x13.get _ (by first | omega | (simp <;> omega))).trans push_new))
            | exact (x15.get _ (by first | omega | (simp <;> omega))).trans ((gr14 _ (by first | omega | (simp <;> omega)) (fun g hg => by have h1 := (o13.blk hg).1; have h2 := (o13.blk hg).2.1; (try simp only [Array.size_push] at h1 ⊢); omega)).trans ((x13.get _ (by first | omega | (simp <;> omega))).trans ((push_old (by simp)).trans push_new)))
            | exact (x15.get _ (by first | omega | (simp <;> omega))).trans ((gr14 _ (by first | omega | (simp <;> omega)) (fun g hg => by have h1 := (o13.blk hg).1; have h2 := (o13.blk hg).2.1; (try simp only [Array.size_push] at h1 ⊢); omega)).trans ((push_old (by first | omega | (simp <;> omega))).trans ((x13.get _ (by first | omega | (simp <;> omega))).trans push_new))))
         | apply extp
         | (with_reducible apply And.intro))
  all_goals try (with_reducible trivial)
  all_goals first
    | exact F3_16 (at' := at') (C.ext (extp y15)) L ht tab hxd (by simp only [go_sem, ↓reduceIte, Nat.reduceEqDiff, Nat.reduceLeDiff, Nat.reduceAdd, Nat.reduceMul, Nat.reduceSub, Nat.reduceBEq, Nat.reduceGT, Nat.reduceLT, Int.reduceLE, Int.reduceLT, Int.reduceNeg, reduceCtorEq, e3]) (by simp only [go_sem, ↓reduceIte, Nat.reduceEqDiff, Nat.reduceLeDiff, Nat.reduceAdd, Nat.reduceMul, Nat.reduceSub, Nat.reduceBEq, Nat.reduceGT, Nat.reduceLT, Int.reduceLE, Int.reduceLT, Int.reduceNeg, reduceCtorEq, e10]) (by simp only [go_sem, ↓reduceIte, Nat.reduceEqDiff, Nat.reduceLeDiff, Nat.reduceAdd, Nat.reduceMul, Nat.reduceSub, Nat.reduceBEq, Nat.reduceGT, Nat.reduceLT, Int.reduceLE, Int.reduceLT, Int.reduceNeg, reduceCtorEq, e11]) (by simp only [go_sem, ↓reduceIte, Nat.reduceEqDiff, Nat.reduceLeDiff, Nat.reduceAdd, Nat.reduceMul, Nat.reduceSub, Nat.reduceBEq, Nat.reduceGT, Nat.reduceLT, Int.reduceLE, Int.reduceLT, Int.reduceNeg, reduceCtorEq, e12]) (by simp only [go_sem, ↓reduceIte, Nat.reduceEqDiff, Nat.reduceLeDiff, Nat.reduceAdd, Nat.reduceMul, Nat.reduceSub, Nat.reduceBEq, Nat.reduceGT, Nat.reduceLT, Int.reduceLE, Int.reduceLT, Int.reduceNeg, reduceCtorEq, e20]) (by simp only [go_sem, ↓reduceIte, Nat.reduceEqDiff, Nat.reduceLeDiff, Nat.reduceAdd, Nat.reduceMul, Nat.reduceSub, Nat.reduceBEq, Nat.reduceGT, Nat.reduceLT, Int.reduceLE, Int.reduceLT, Int.reduceNeg, reduceCtorEq, e21]) (by simp only [go_sem, ↓reduceIte, Nat.reduceEqDiff, Nat.reduceLeDiff, Nat.reduceAdd, Nat.reduceMul, Nat.reduceSub, Nat.reduceBEq, Nat.reduceGT, Nat.reduceLT, Int.reduceLE, Int.reduceLT, Int.reduceNeg, reduceCtorEq]) (by simp only [go_sem, ↓reduceIte, Nat.reduceEqDiff, Nat.reduceLeDiff, Nat.reduceAdd, Nat.reduceMul, Nat.reduceSub, Nat.reduceBEq, Nat.reduceGT, Nat.reduceLT, Int.reduceLE, Int.reduceLT, Int.reduceNeg, reduceCtorEq])
    | exact F3_16 (at' := at') (C.ext (y15.hput (by first | omega | (simp <;> omega)))) L ht tab hxd (by simp only [go_sem, ↓reduceIte, Nat.reduceEqDiff, Nat.reduceLeDiff, Nat.reduceAdd, Nat.reduceMul, Nat.reduceSub, Nat.reduceBEq, Nat.reduceGT, Nat.reduceLT, Int.reduceLE, Int.reduceLT, Int.reduceNeg, reduceCtorEq, e3]) (by simp only [go_sem, ↓reduceIte, Nat.reduceEqDiff, Nat.reduceLeDiff, Nat.reduceAdd, Nat.reduceMul, Nat.reduceSub, Nat.reduceBEq, Nat.reduceGT, Nat.reduceLT, Int.reduceLE, Int.reduceLT, Int.reduceNeg, reduceCtorEq, e10]) (by simp only [go_sem, ↓reduceIte, Nat.reduceEqDiff, Nat.reduceLeDiff, Nat.reduceAdd, Nat.reduceMul, Nat.reduceSub, Nat.reduceBEq, Nat.reduceGT, Nat.reduceLT, Int.reduceLE, Int.reduceLT, Int.reduceNeg, reduceCtorEq, e11]) (by simp only [go_sem, ↓reduceIte, Nat.reduceEqDiff, Nat.reduceLeDiff, Nat.reduceAdd, Nat.reduceMul, Nat.reduceSub, Nat.reduceBEq, Nat.reduceGT, Nat.reduceLT, Int.reduceLE, Int.reduceLT, Int.reduceNeg, reduceCtorEq, e12]) (by simp only [go_sem, ↓reduceIte, Nat.reduceEqDiff, Nat.reduceLeDiff, Nat.reduceAdd, Nat.reduceMul, Nat.reduceSub, Nat.reduceBEq, Nat.reduceGT, Nat.reduceLT, Int.reduceLE, Int.reduceLT, Int.reduceNeg, reduceCtorEq, e20]) (by simp only [go_sem, ↓reduceIte, Nat.reduceEqDiff, Nat.reduceLeDiff, Nat.reduceAdd, Nat.reduceMul, Nat.reduceSub, Nat.reduceBEq, Nat.reduceGT, Nat.reduceLT, Int.reduceLE, Int.reduceLT, Int.reduceNeg, reduceCtorEq, e21]) (by simp only [go_sem, ↓reduceIte, Nat.reduceEqDiff, Nat.reduceLeDiff, Nat.reduceAdd, Nat.reduceMul, Nat.reduceSub, Nat.reduceBEq, Nat.reduceGT, Nat.reduceLT, Int.reduceLE, Int.reduceLT, Int.reduceNeg, reduceCtorEq]) (by simp only [go_sem, ↓reduceIte, Nat.reduceEqDiff, Nat.reduceLeDiff, Nat.reduceAdd, Nat.reduceMul, Nat.reduceSub, Nat.reduceBEq, Nat.reduceGT, Nat.reduceLT, Int.reduceLE, Int.reduceLT, Int.reduceNeg, reduceCtorEq])
set_option maxHeartbeats 3200000 in
/-- What was loaded is the checkpoint; shards of one more. -/
theorem F3_10 {g9 q4 m2 n3 : Nat} {q3 m1 n1 : Option Addr} (C : KeepC H X F b g s p (.slice a1 xs.length a2) (.slice c1 es.length c2) (.slice d1 deg.length d2) xs deg es) (L : KeepL s p xs es) (ht : CrcTab H) (tab : Tab H) (hxd : xs.length = deg.length) (hle : es.length ≤ 1000)
    (k9 : X[g9]? = some (.cells #[.int .i64 p, .slice m1 xs.length m2, .slice n1 es.length n3] 28)) (ia9 : Ints X 3 .i64 (.slice m1 xs.length m2) xs) (ic9 : Bls X 4 (.slice n1 es.length n3) es) (iw : Ints X 3 .i64 (.slice q3 (deg.length + 2) q4) (deg ++ [47, 11]))
    (e3 : ρ 3 = .int .i64 at') (e10 : ρ 10 = .pointer (some ⟨b, 0, none⟩)) (e11 : ρ 11 = .pointer (some ⟨g, 0, none⟩)) (e12 : ρ 12 = .slice d1 deg.length d2) (e13 : ρ 13 = .int .i64 0) (e14 : ρ 14 = .slice q3 (deg.length + 2) q4) (e15 : ρ 15 = .pointer (some ⟨g9, 0, none⟩)) (e16 : ρ 16 = .bool true) (e17 : ρ 17 = .int .i64 0) :
    @vcI Tryd.prog (tyOf Tryd.prog) n c3_S10 ρ X ⟨finV (tyOf Tryd.prog) [.tmp 8] (fun r H' => r = .bool true ∧ Ext H H')⟩ := by
  have hl5 := L.len
  obtain ⟨j0, j1, j2⟩ := C.gets
  have j3 : hget X g9 0 = some (.int .i64 p) := by rw [hget_cells k9]; rfl
  have j4 : hget X g9 1 = some (.slice m1 xs.length m2) := by rw [hget_cells k9]; rfl
  have j5 : hget X g9 2 = some (.slice n1 es.length n3) := by rw [hget_cells k9]; rfl
  have c7 : (0 : Int) ≤ deg.length := by omega
  simp only [go_sem, ↓reduceIte, Nat.reduceEqDiff, Nat.reduceLeDiff, Nat.reduceAdd, Nat.reduceMul, Nat.reduceSub, Nat.reduceBEq, Nat.reduceGT, Nat.reduceLT, Int.reduceLE, Int.reduceLT, Int.reduceNeg, reduceCtorEq, c3_S10, c3_S11, c3_S14, ptrOf, e10, e11, e12, e13, e14, e15, e16, e17, j0, j1, j2, j3, j4, j5]
  refine FunI.by (F11 _ _ p p xs xs es es X ⟨_, _, rfl, ia9, ic9⟩ ⟨_, _, rfl, C.oa.own.sl, C.oc.own.sl⟩ (by omega) (by omega)) ?_
  rintro _ H10 ⟨rfl, x10⟩
  have i10 := iw.ext x10
  obtain ⟨qb, qo, rfl⟩ := i10.at (show 0 < (deg ++ [47, 11]).length by simp)
  have gw1 : hget H10 qb (qo + deg.length) = some (.int .i64 47) := by
    rw [i10.get (i := deg.length) (by simp)]
    simp
  have gw2 : hget H10 qb (qo + (deg.length + 1)) = some (.int .i64 11) := by
    rw [i10.get (i := deg.length + 1) (by simp)]
    simp
  have w1 : IntKind.i64.wrap ((deg.length : Int) + 1) = (deg.length : Int) + 1 := w64_id (by omega) (by omega)
  have e1 : ((deg.length : Int) + 1).toNat = deg.length + 1 := by omega
  have c9 : (deg.length : Int) < (deg.length + 2 : Nat) := by omega
  have c10 : (0 : Int) ≤ (deg.length : Int) + 1 := by omega
  have c11 : (deg.length : Int) + 1 < (deg.length + 2 : Nat) := by omega
  simp only [go_sem, ↓reduceIte, Nat.reduceEqDiff, Nat.reduceLeDiff, Nat.reduceAdd, Nat.reduceMul, Nat.reduceSub, Nat.reduceBEq, Nat.reduceGT, Nat.reduceLT, Int.reduceLE, Int.reduceLT, Int.reduceNeg, reduceCtorEq, ptrOf, and_self, decide_true, c7, w1, e1, c9, c10, c11, gw1, gw2, e10, e11, e12, e13, e14, e15, e16, e17]
  repeat (refine FunI.by (F12 _ _) ?_; rintro _ _ ⟨rfl, rfl⟩; simp only [go_sem, ↓reduceIte, Nat.reduceEqDiff, Nat.reduceLeDiff, Nat.reduceAdd, Nat.reduceMul, Nat.reduceSub, Nat.reduceBEq, Nat.reduceGT, Nat.reduceLT, Int.reduceLE, Int.reduceLT, Int.reduceNeg, reduceCtorEq, ptrOf, Int.reduceEq, e10, e11, e12, e13, e14, e15, e16, e17])
  have C10 := C.ext x10
  obtain ⟨i0, i1, i2⟩ := C10.gets
  have wE : IntKind.i64.wrap ((es.length : Int) + 1) = (es.length : Int) + 1 := w64_id (by omega) (by omega)
  simp only [go_sem, ↓reduceIte, Nat.reduceEqDiff, Nat.reduceLeDiff, Nat.reduceAdd, Nat.reduceMul, Nat.reduceSub, Nat.reduceBEq, Nat.reduceGT, Nat.reduceLT, Int.reduceLE, Int.reduceLT, Int.reduceNeg, reduceCtorEq, c3_S14, ptrOf, i2, wE, e10, e11, e12]
  refine FunI.by (F10 _ 3 ((es.length : Int) + 1) deg H10 C10.fs L.pc.ok L.pc.on (C10.N.stg0 ht).2 (tab.ext C10.N.1) C10.od.own.sl (by omega) L.k3) ?_
  rintro _ H11 ⟨x11, hd, l, e, hL, hr⟩
  obtain ⟨rfl, rfl, rfl⟩ := L.three _ _ _ hL
  have hf : fitsC xs es deg ((es.length : Int) + 1) = false := decide_eq_false (fun h => by have := h.2.1; omega)
  rw [cloadS_back L.m, if_neg (by rw [hf]; decide)] at hr
  subst hr
  simp only [go_sem, ↓reduceIte, Nat.reduceEqDiff, Nat.reduceLeDiff, Nat.reduceAdd, Nat.reduceMul, Nat.reduceSub, Nat.reduceBEq, Nat.reduceGT, Nat.reduceLT, Int.reduceLE, Int.reduceLT, Int.reduceNeg, reduceCtorEq, ptrOf, hput_push3, hcan_push, List.all_cons, List.all_nil, Value.oneCell']
  exact F3_15 (at' := at') (C10.ext (x11.trans ((Ext.push _).mono x11.size))) L ht tab hxd (by simp only [go_sem, ↓reduceIte, Nat.reduceEqDiff, Nat.reduceLeDiff, Nat.reduceAdd, Nat.reduceMul, Nat.reduceSub, Nat.reduceBEq, Nat.reduceGT, Nat.reduceLT, Int.reduceLE, Int.reduceLT, Int.reduceNeg, reduceCtorEq, e3]) (by simp only [go_sem, ↓reduceIte, Nat.reduceEqDiff, Nat.reduceLeDiff, Nat.reduceAdd, Nat.reduceMul, Nat.reduceSub, Nat.reduceBEq, Nat.reduceGT, Nat.reduceLT, Int.reduceLE, Int.reduceLT, Int.reduceNeg, reduceCtorEq, e10]) (by simp only [go_sem, ↓reduceIte, Nat.reduceEqDiff, Nat.reduceLeDiff, Nat.reduceAdd, Nat.reduceMul, Nat.reduceSub, Nat.reduceBEq, Nat.reduceGT, Nat.reduceLT, Int.reduceLE, Int.reduceLT, Int.reduceNeg, reduceCtorEq, e11]) (by simp only [go_sem, ↓reduceIte, Nat.reduceEqDiff, Nat.reduceLeDiff, Nat.reduceAdd, Nat.reduceMul, Nat.reduceSub, Nat.reduceBEq, Nat.reduceGT, Nat.reduceLT, Int.reduceLE, Int.reduceLT, Int.reduceNeg, reduceCtorEq, e12]) (by simp only [go_sem, ↓reduceIte, Nat.reduceEqDiff, Nat.reduceLeDiff, Nat.reduceAdd, Nat.reduceMul, Nat.reduceSub, Nat.reduceBEq, Nat.reduceGT, Nat.reduceLT, Int.reduceLE, Int.reduceLT, Int.reduceNeg, reduceCtorEq]) (by simp only [go_sem, ↓reduceIte, Nat.reduceEqDiff, Nat.reduceLeDiff, Nat.reduceAdd, Nat.reduceMul, Nat.reduceSub, Nat.reduceBEq, Nat.reduceGT, Nat.reduceLT, Int.reduceLE, Int.reduceLT, Int.reduceNeg, reduceCtorEq])
end
set_option maxHeartbeats 12800000 in
theorem F3 (u : Value) (est : List Int) (v : Value) (ds : List Bool) (w : Value) (more : List Int) (at' : Int) (H : Heap) (hu : Ints H 3 .i64 u est) (hv : Bls H 4 v ds) (hw : Ints H 3 .i64 w more) (hat : -9223372036854775808 ≤ at' ∧ at' < 9223372036854775808) (ht : CrcTab H) (tab : Tab H) (_ : est.length ≤ 1048576) (_ : ds.length ≤ 1048576) (hl : more.length ≤ 1048576) :
    Fun Tryd.prog 3 #[u, v, w, .int .i64 at'] H (fun r H' => r = .bool true ∧ Ext H H') := by
  obtain ⟨u1, u2, rfl⟩ := hu.form
  obtain ⟨v1, v2, rfl⟩ := hv.form
  obtain ⟨w1, w2, rfl⟩ := hw.form
  refine fun_of mixed (args := [_, _, _, _]) Tryd.func3 Tryd.ntmps3 b3 r3 rfl ?_
  rw [c3_ch]
  simp only [go_sem, ↓reduceIte, Nat.reduceEqDiff, Nat.reduceLeDiff, Nat.reduceAdd, Nat.reduceMul, Nat.reduceSub, Nat.reduceBEq, Nat.reduceGT, Nat.reduceLT, Int.reduceLE, Int.reduceLT, Int.reduceNeg, reduceCtorEq, c3_S0, c3_S1, c3_S2, c3_S3, c3_S6, c3_S7, c3_S8, c3_S9]
  refine FunI.by (F5 H tab) ?_
  rintro _ H1 ⟨rfl, x1⟩
  simp only [go_sem, ↓reduceIte, Nat.reduceEqDiff, Nat.reduceLeDiff, Nat.reduceAdd, Nat.reduceMul, Nat.reduceSub, Nat.reduceBEq, Nat.reduceGT, Nat.reduceLT, Int.reduceLE, Int.reduceLT, Int.reduceNeg, reduceCtorEq, c3_S0, c3_S1, c3_S2, c3_S3, c3_S6, c3_S7, c3_S8, c3_S9]
  refine FunI.by (F6 1048576 H1 trivial) ?_
  rintro _ H2 ⟨x2, h⟩
  rw [if_neg (by omega)] at h
  obtain ⟨b, F, rfl, h2, n2⟩ := h
  have x12 : Ext H H2 := Upto.ext x1 x1.size x2
  have hs1 := x1.size
  have hs2 := x12.size
  have nF : ∀ g, F g → H.size ≤ g := fun g hg => Nat.le_trans hs1 (n2 g hg)
  have lF : ∀ g, F g → g < H2.size := fun g hg => FsH.lt h2 hg
  simp only [go_sem, ↓reduceIte, Nat.reduceEqDiff, Nat.reduceLeDiff, Nat.reduceAdd, Nat.reduceMul, Nat.reduceSub, Nat.reduceBEq, Nat.reduceGT, Nat.reduceLT, Int.reduceLE, Int.reduceLT, Int.reduceNeg, reduceCtorEq, c3_S0, c3_S1, c3_S2, c3_S3, c3_S6, c3_S7, c3_S8, c3_S9, ptrOf]
  refine FunI.by (F7 _ _ _ est more ds H2 (hu.ext x12) (hv.ext x12) (hw.ext x12)) ?_
  rintro _ H3 ⟨a, c, d, rfl, oa, oc, od, had, x3⟩
  have hs3 := x3.size
  have n5 := fitN_le est
  have eL := estN_len est (fitN est)
  have gL := degN_len est more (fitN est)
  obtain ⟨xs, hxs⟩ : ∃ z, z = estN est (fitN est) := ⟨_, rfl⟩
  obtain ⟨deg, hdeg⟩ : ∃ z, z = degN est more (fitN est) := ⟨_, rfl⟩
  obtain ⟨es, hes⟩ : ∃ z, z = ds.take 1000 := ⟨_, rfl⟩
  have hle : es.length ≤ 1000 := by rw [hes]; simp; omega
  have hm : mayC 3 more.length xs es = true := by rw [hxs, hes]; exact fit_may est ds (by omega) (by omega)
  have hfit : fitsC xs es deg (es.length : Nat) = true := by rw [hxs, hes, hdeg]; exact fit_fits est more ds
  rw [← hxs] at oa eL
  rw [← hdeg] at od gL
  rw [← hes] at oc
  obtain ⟨a1, a2, rfl⟩ := Ints.form (xs := xs) (k := .i64) oa.sl
  obtain ⟨d1, d2, rfl⟩ := Ints.form (xs := deg) (k := .i64) od.sl
  obtain ⟨c1, c2, rfl⟩ := Bls.form (bs := es) oc.sl
  simp only [go_sem, ↓reduceIte, Nat.reduceEqDiff, Nat.reduceLeDiff, Nat.reduceAdd, Nat.reduceMul, Nat.reduceSub, Nat.reduceBEq, Nat.reduceGT, Nat.reduceLT, Int.reduceLE, Int.reduceLT, Int.reduceNeg, reduceCtorEq, c3_S0, c3_S1, c3_S2, c3_S3, c3_S6, c3_S7, c3_S8, c3_S9, ptrOf, hput_push3, hcan_push, List.all_cons, List.all_nil, Value.oneCell']
  obtain ⟨H4, hH4⟩ : ∃ H4, H4 = H3.push (.cells #[.int .i64 more.length, .slice a1 xs.length a2, .slice c1 es.length c2] 28) := ⟨_, rfl⟩
  have x4 : Ext H3 H4 := by rw [hH4]; exact Ext.push _
  have k4 : H4[H3.size]? = some (.cells #[.int .i64 more.length, .slice a1 xs.length a2, .slice c1 es.length c2] 28) := by rw [hH4]; exact push_new
  have s4 : H4.size = H3.size + 1 := by rw [hH4]; simp
  rw [← hH4]
  have x24 : Ext H2 H4 := x3.trans (x4.mono x3.size)
  have N4 : Newly H H4 F := ⟨x12.trans (x24.mono hs2), nF⟩
  have h4 := h2.ext x24
  have oa4 := oa.ext x4
  have oc4 := oc.ext x4
  have od4 := od.ext x4
  have p0 : Peace (freshS 1048576) := Peace.fresh (by omega)
  obtain ⟨f4, t4⟩ := N4.stg0 ht
  have en : nameS 3 = nmK 51 := nameS_d (by omega)
  have en4 : nameS 4 = nmK 52 := nameS_d (by omega)
  have nm3 : isNm (nmK 51) = true := by decide +kernel
  have tn3 : isNm (tn (nmK 51)) = true := by decide +kernel
  have ne3 : tn (nmK 51) ≠ nmK 51 := by decide +kernel
  refine FunI.by (F8 _ 3 more.length xs es H4 h4 p0.ok (by show (0 : Int) < _; decide) f4 t4 (tab.ext N4.1) ⟨_, _, rfl, oa4.sl, oc4.sl⟩ hm (by omega)) ?_
  rintro _ H5 ⟨f, F5, hf, rfl, h5, cx5⟩
  rw [en] at h5 ⊢
  have cf := chk_file hm (by omega : xs.length ≤ 5000)
  have hh := head_len 3 more.length xs es
  have cl := chk_len (ds := es) (show xs.length ≤ 5000 by omega)
  have po := pub_power p0.ok p0.on nm3 tn3 rfl hf (hd := chkHead 3 more.length xs es) (l := chkData xs es) (by omega) (head_wf _ _ _ _) (chk_byt hm) (by rw [held_fresh]; show _ ≤ (1048576 : Int); omega)
  have pops := pub_ops (freshS 1048576) (nmK 51) (chkHead 3 more.length xs es) (chkData xs es) f
  have e0 : (freshS 1048576).ops = 0 := rfl
  obtain ⟨r, hr⟩ : ∃ r, r = pubS (freshS 1048576) (nmK 51) (chkHead 3 more.length xs es) (chkData xs es) f := ⟨_, rfl⟩
  rw [← hr] at po h5 pops ⊢
  obtain ⟨s, e⟩ := r
  have he : e = 0 := by
    rcases (out_ok po).2 with e | ⟨e, _⟩
    · exact e
    · exact absurd e (by decide)
  subst he
  have hfin : Fin (freshS 1048576) s (tn (nmK 51)) (nmK 51) f (rowB (fileR (chkHead 3 more.length xs es) (chkData xs es))) := by
    cases po with
    | fin h => exact h
  obtain ⟨W, pc⟩ := WasN.first nm3 tn3 ne3 hfin (by omega) (by simp only at pops; omega)
  have no4 : s.now (nmK 52) = none := fresh_now hfin (by decide +kernel) (by decide +kernel)
  obtain ⟨y, y1, y2, y3⟩ := W.file
  have hL3 : ∀ hd l e, Loads s (nmK 51) hd l e → hd = chkHead 3 more.length xs es ∧ l = chkData xs es ∧ e = 0 := fun hd l e hL => loads_file pc y1 y2 (by omega) (fun p hp => (chk_byt hm p hp).1) hL
  have hL4 : ∀ hd l e, Loads s (nmK 52) hd l e → hd = [] ∧ l = [] ∧ e = 82 := fun hd l e hL => no_load pc (by decide +kernel) no4 hL
  have hk3 : ∀ hd l e, Loads s (nameS 3) hd l e → Byt hd ∧ (∀ y ∈ l, Byt y ∧ y.length ≤ 140737488350000) ∧ l.length ≤ 1000000000 := by
    intro hd l e hL
    rw [en] at hL
    obtain ⟨e1, e2, _⟩ := hL3 hd l e hL
    rw [e1, e2]
    exact ⟨head_wf _ _ _ _, fun y hy => ⟨(chk_byt hm y hy).2, by have := (chk_byt hm y hy).1; omega⟩, by omega⟩
  have hk4 : ∀ hd l e, Loads s (nameS 4) hd l e → Byt hd ∧ (∀ y ∈ l, Byt y ∧ y.length ≤ 140737488350000) ∧ l.length ≤ 1000000000 := by
    intro hd l e hL
    rw [en4] at hL
    obtain ⟨e1, e2, _⟩ := hL4 hd l e hL
    rw [e1, e2]
    exact ⟨fun y hy => (by cases hy), fun y hy => (by cases hy), by simp⟩
  have L : KeepL s more.length xs es := ⟨pc, hm, by rw [en]; exact hL3, by rw [en4]; exact hL4, by omega⟩
  have nf5 : ¬ F5 H3.size := cx5.not (by omega) (fun e => by have := lF _ e; omega)
  have N5 := N4.chx cx5 (fun _ e => e.elim)
  have hs5 := cx5.size
  have nc : ¬ F H3.size := fun e => by have := lF _ e; omega
  have nd : ∀ g, H2.size ≤ g → ¬ F g := fun g hg e => by have := lF _ e; omega
  have k5 : H5[H3.size]? = some (.cells #[.int .i64 more.length, .slice a1 xs.length a2, .slice c1 es.length c2] 28) := (cx5.get _ (by omega) nc (fun e => e)).trans k4
  have oa5 := (OwnA.mk oa4 fun g hg => nd g (oa4.blk hg).1).keep cx5 fun g _ e => e
  have oc5 := (OwnA.mk oc4 fun g hg => nd g (oc4.blk hg).1).keep cx5 fun g _ e => e
  have od5 := (OwnA.mk od4 fun g hg => nd g (od4.blk hg).1).keep cx5 fun g _ e => e
  obtain ⟨f5, t5⟩ := N5.stg0 ht
  have id5 : Ints H5 3 .i64 (.slice d1 deg.length d2) deg := od5.own.sl
  simp only [go_sem, ↓reduceIte, Nat.reduceEqDiff, Nat.reduceLeDiff, Nat.reduceAdd, Nat.reduceMul, Nat.reduceSub, Nat.reduceBEq, Nat.reduceGT, Nat.reduceLT, Int.reduceLE, Int.reduceLT, Int.reduceNeg, reduceCtorEq, c3_S0, c3_S1, c3_S2, c3_S3, c3_S6, c3_S7, c3_S8, c3_S9, ptrOf]
  refine FunI.by (F9 _ deg H5 id5 (by omega)) ?_
  rintro w6 H6 ⟨o6, x6⟩
  obtain ⟨q1, q2, rfl⟩ := Ints.form (xs := deg) (k := .i64) o6.sl
  simp only [go_sem, ↓reduceIte, Nat.reduceEqDiff, Nat.reduceLeDiff, Nat.reduceAdd, Nat.reduceMul, Nat.reduceSub, Nat.reduceBEq, Nat.reduceGT, Nat.reduceLT, Int.reduceLE, Int.reduceLT, Int.reduceNeg, reduceCtorEq, c3_S0, c3_S1, c3_S2, c3_S3, c3_S6, c3_S7, c3_S8, c3_S9, ptrOf]
  refine RunI.by (append_lit ty22 ty3 rfl (by decide) o6 (ys := [.int .i64 47, .int .i64 11]) (m := 2) rfl rfl (n := deg.length + 2) (by simp) (by omega) (by omega) x6.size) ?_
  rintro w7 H7 ⟨o7, gr7, _⟩
  have x7 : Ext H5 H7 := x6.trans (gr7.upto o6 x6.size)
  rw [show [Value.int .i64 47, .int .i64 11] = [(47 : Int), 11].map (.int .i64) from rfl, ← List.map_append] at o7
  obtain ⟨q3, q4, rfl⟩ := Ints.form (xs := deg ++ [47, 11]) (k := .i64) o7.sl
  have i7 : Ints H7 3 .i64 (.slice q3 (deg ++ [47, 11]).length q4) (deg ++ [47, 11]) := o7.sl
  have l7 : (deg ++ [(47 : Int), 11]).length = deg.length + 2 := by simp
  rw [l7] at i7
  have hs7 := x7.size
  have k7 : H7[H3.size]? = some (.cells #[.int .i64 more.length, .slice a1 xs.length a2, .slice c1 es.length c2] 28) := (x7.get _ (by omega)).trans k5
  have k72 : hget H7 H3.size 2 = some (.slice c1 es.length c2) := by rw [hget_cells k7]; rfl
  have N7 := N5.ext x7
  have h7 := h5.ext x7
  obtain ⟨f7, t7⟩ := N7.stg0 ht
  have c7 : (0 : Int) ≤ deg.length := by omega
  have c8 : (deg.length : Int) ≤ q4 := by have := Sl.lecap i7; omega
  have esl : (if q4 = 0 then q3 else Option.map (fun x => x) q3) = q3 := by split <;> simp
  have i7' : Ints H7 3 .i64 (.slice q3 deg.length q4) deg := by
    have := ints_take i7 (m := deg.length) (by omega)
    rwa [List.take_left] at this
  simp only [go_sem, ↓reduceIte, Nat.reduceEqDiff, Nat.reduceLeDiff, Nat.reduceAdd, Nat.reduceMul, Nat.reduceSub, Nat.reduceBEq, Nat.reduceGT, Nat.reduceLT, Int.reduceLE, Int.reduceLT, Int.reduceNeg, reduceCtorEq, c3_S0, c3_S1, c3_S2, c3_S3, c3_S6, c3_S7, c3_S8, c3_S9, ptrOf, ext_push, ext_refl, k72, l7, c7, c8, esl]
  refine ⟨?_, ?_⟩
  case' refine_1 =>
    refine FunI.by (F10 _ 3 (es.length : Nat) deg H7 h7 pc.ok pc.on t7 (tab.ext N7.1) i7' (by omega) hk3) ?_
    rintro _ H8 ⟨x8, hd, l, e, hL, hr⟩
    rw [en] at hL
    obtain ⟨rfl, rfl, rfl⟩ := hL3 _ _ _ hL
    rw [cloadS_back hm, if_pos hfit] at hr
    obtain ⟨a8, c8', rfl, oa8, oc8⟩ := hr
    obtain ⟨m1, m2, rfl⟩ := Ints.form (xs := xs) (k := .i64) oa8.sl
    obtain ⟨n1, n3, rfl⟩ := Bls.form (bs := es) oc8.sl
    obtain ⟨H9, hH9⟩ : ∃ H9, H9 = H8.push (.cells #[.int .i64 more.length, .slice m1 xs.length m2, .slice n1 es.length n3] 28) := ⟨_, rfl⟩
    simp only [go_sem, ↓reduceIte, Nat.reduceEqDiff, Nat.reduceLeDiff, Nat.reduceAdd, Nat.reduceMul, Nat.reduceSub, Nat.reduceBEq, Nat.reduceGT, Nat.reduceLT, Int.reduceLE, Int.reduceLT, Int.reduceNeg, reduceCtorEq, c3_S0, c3_S1, c3_S2, c3_S3, c3_S6, c3_S7, c3_S8, c3_S9, ptrOf, hput_push3, hcan_push, List.all_cons, List.all_nil, Value.oneCell']
    rw [← hH9]
    obtain ⟨g9, hg9⟩ : ∃ g, g = H8.size := ⟨_, rfl⟩
    have x89 : Ext H8 H9 := by rw [hH9]; exact Ext.push _
    have k9 : H9[g9]? = some (.cells #[.int .i64 more.length, .slice m1 xs.length m2, .slice n1 es.length n3] 28) := by rw [hH9, hg9]; exact push_new
    have x9 : Ext H7 H9 := x8.trans (x89.mono x8.size)
    have ia9 : Ints H9 3 .i64 (.slice m1 xs.length m2) xs := (oa8.ext x89).sl
    have ic9 : Bls H9 4 (.slice n1 es.length n3) es := (oc8.ext x89).sl
    refine ⟨x8, x8.trans ((Ext.push _).mono x8.size), ?_⟩
  case' refine_2 =>
    obtain ⟨H71, hH71⟩ : ∃ H9, H9 = H7.push (.cells #[.int .i64 0, .slice none 0 0, .slice none 0 0] 28) := ⟨_, rfl⟩
    have x71 : Ext H7 H71 := by rw [hH71]; exact Ext.push _
    have k71 : H71[H7.size]? = some (.cells #[.int .i64 0, .slice none 0 0, .slice none 0 0] 28) := by rw [hH71]; exact push_new
    have s71 : H71.size = H7.size + 1 := by rw [hH71]; simp
    rw [← hH71]
    refine FunI.by (F10 _ 3 (es.length : Nat) deg H71 (h7.ext x71) pc.ok pc.on (t7.ext x71) (tab.ext (N7.ext x71).1) (i7'.ext x71) (by omega) hk3) ?_
    rintro _ H8 ⟨x8, hd, l, e, hL, hr⟩
    rw [en] at hL
    obtain ⟨rfl, rfl, rfl⟩ := hL3 _ _ _ hL
    rw [cloadS_back hm, if_pos hfit] at hr
    obtain ⟨a8, c8', rfl, oa8, oc8⟩ := hr
    obtain ⟨m1, m2, rfl⟩ := Ints.form (xs := xs) (k := .i64) oa8.sl
    obtain ⟨n1, n3, rfl⟩ := Bls.form (bs := es) oc8.sl
    have k8 : H8[H7.size]? = some (.cells #[.int .i64 0, .slice none 0 0, .slice none 0 0] 28) := (x8.get _ (by omega)).trans k71
    obtain ⟨H9, hH9⟩ : ∃ H9, H9 = hput H8 H7.size 0 [.int .i64 more.length, .slice m1 xs.length m2, .slice n1 es.length n3] := ⟨_, rfl⟩
    simp only [go_sem, ↓reduceIte, Nat.reduceEqDiff, Nat.reduceLeDiff, Nat.reduceAdd, Nat.reduceMul, Nat.reduceSub, Nat.reduceBEq, Nat.reduceGT, Nat.reduceLT, Int.reduceLE, Int.reduceLT, Int.reduceNeg, reduceCtorEq, c3_S0, c3_S1, c3_S2, c3_S3, c3_S6, c3_S7, c3_S8, c3_S9, ptrOf]
    refine ⟨x71.trans (x8.mono x71.size), rfl, hcan_of k8 (by simp), ?_⟩
    rw [← hH9]
    obtain ⟨g9, hg9⟩ : ∃ g, g = H7.size := ⟨_, rfl⟩
    have k9 : H9[g9]? = some (.cells #[.int .i64 more.length, .slice m1 xs.length m2, .slice n1 es.length n3] 28) := by rw [hH9, hg9]; exact hput_same k8
    have x9 : Ext H7 H9 := by rw [hH9]; exact (x71.trans (x8.mono x71.size)).hput (Nat.le_refl _)
    have ia9 : Ints H9 3 .i64 (.slice m1 xs.length m2) xs := (oa8.keep fun g hg => by rw [hH9]; exact hput_other _ _ _ _ (by have := (oa8.blk hg).1; omega)).sl
    have ic9 : Bls H9 4 (.slice n1 es.length n3) es := (oc8.keep fun g hg => by rw [hH9]; exact hput_other _ _ _ _ (by have := (oc8.blk hg).1; omega)).sl
  all_goals
    clear hH9
    have x59 : Ext H5 H9 := x7.trans (x9.mono x7.size)
    have mA : ∀ {e : TypeId} {v : Value} {vs : List Value}, OwnA H5 F5 H2.size e v vs → OwnA H9 F5 H.size e v vs := fun h => ⟨(h.own.ext x59).mono hs2, h.aw⟩
    have C9 : KeepC H H9 F5 b H3.size s more.length (.slice a1 xs.length a2) (.slice c1 es.length c2) (.slice d1 deg.length d2) xs deg es := ⟨N7.ext x9, h7.ext x9, by omega, nf5, (x59.get _ (by omega)).trans k5, mA oa5, mA oc5, mA od5⟩
    exact F3_10 (at' := at') C9 L ht tab (by omega) hle k9 ia9 ic9 (i7.ext x9) (by simp only [go_sem, ↓reduceIte, Nat.reduceEqDiff, Nat.reduceLeDiff, Nat.reduceAdd, Nat.reduceMul, Nat.reduceSub, Nat.reduceBEq, Nat.reduceGT, Nat.reduceLT, Int.reduceLE, Int.reduceLT, Int.reduceNeg, reduceCtorEq]) (by simp only [go_sem, ↓reduceIte, Nat.reduceEqDiff, Nat.reduceLeDiff, Nat.reduceAdd, Nat.reduceMul, Nat.reduceSub, Nat.reduceBEq, Nat.reduceGT, Nat.reduceLT, Int.reduceLE, Int.reduceLT, Int.reduceNeg, reduceCtorEq]) (by simp only [go_sem, ↓reduceIte, Nat.reduceEqDiff, Nat.reduceLeDiff, Nat.reduceAdd, Nat.reduceMul, Nat.reduceSub, Nat.reduceBEq, Nat.reduceGT, Nat.reduceLT, Int.reduceLE, Int.reduceLT, Int.reduceNeg, reduceCtorEq]) (by simp only [go_sem, ↓reduceIte, Nat.reduceEqDiff, Nat.reduceLeDiff, Nat.reduceAdd, Nat.reduceMul, Nat.reduceSub, Nat.reduceBEq, Nat.reduceGT, Nat.reduceLT, Int.reduceLE, Int.reduceLT, Int.reduceNeg, reduceCtorEq]) (by simp only [go_sem, ↓reduceIte, Nat.reduceEqDiff, Nat.reduceLeDiff, Nat.reduceAdd, Nat.reduceMul, Nat.reduceSub, Nat.reduceBEq, Nat.reduceGT, Nat.reduceLT, Int.reduceLE, Int.reduceLT, Int.reduceNeg, reduceCtorEq]) (by simp only [go_sem, ↓reduceIte, Nat.reduceEqDiff, Nat.reduceLeDiff, Nat.reduceAdd, Nat.reduceMul, Nat.reduceSub, Nat.reduceBEq, Nat.reduceGT, Nat.reduceLT, Int.reduceLE, Int.reduceLT, Int.reduceNeg, reduceCtorEq]) (by simp only [go_sem, ↓reduceIte, Nat.reduceEqDiff, Nat.reduceLeDiff, Nat.reduceAdd, Nat.reduceMul, Nat.reduceSub, Nat.reduceBEq, Nat.reduceGT, Nat.reduceLT, Int.reduceLE, Int.reduceLT, Int.reduceNeg, reduceCtorEq, hg9]) (by simp only [go_sem, ↓reduceIte, Nat.reduceEqDiff, Nat.reduceLeDiff, Nat.reduceAdd, Nat.reduceMul, Nat.reduceSub, Nat.reduceBEq, Nat.reduceGT, Nat.reduceLT, Int.reduceLE, Int.reduceLT, Int.reduceNeg, reduceCtorEq]) (by simp only [go_sem, ↓reduceIte, Nat.reduceEqDiff, Nat.reduceLeDiff, Nat.reduceAdd, Nat.reduceMul, Nat.reduceSub, Nat.reduceBEq, Nat.reduceGT, Nat.reduceLT, Int.reduceLE, Int.reduceLT, Int.reduceNeg, reduceCtorEq])
end Go.Proofs.YtgigigchjnnonaaDoor
