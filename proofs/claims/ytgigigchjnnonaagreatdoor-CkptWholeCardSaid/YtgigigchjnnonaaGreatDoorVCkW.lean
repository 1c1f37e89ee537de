/- The law CkptWhole, over heaps. -/
import Derived.Test.YtgigigchjnnonaaGreatDoorM2
import Derived.Test.YtgigigchjnnonaaGreatDoorVWh9
import Derived.Test.YtgigigchjnnonaaGreatDoorVCodeL
set_option linter.unusedSimpArgs false
set_option linter.unusedVariables false
set_option maxRecDepth 20000
namespace Go.Proofs.YtgigigchjnnonaaGreatDoor
open Go Go.V
/-- Two checkpoints, degrees that fit, and the file system. -/
structure WholeC (H X : Heap) (F : Nat → Prop) (b ga gb : Nat) (s : St) (av cv bv bc dv : Value) (xs ys deg : List Int) (es : List Bool) : Prop where
  N : Newly H X F
  fs : FsH X F b s
  la : ga < X.size ∧ ¬ F ga
  lb : gb < X.size ∧ ¬ F gb
  ka : X[ga]? = some (.cells #[.int .i64 0, av, cv] 28)
  kb : X[gb]? = some (.cells #[.int .i64 9, bv, bc] 28)
  oa : OwnA X F H.size 3 av (xs.map (.int .i64))
  oc : OwnA X F H.size 4 cv (es.map .bool)
  ob : OwnA X F H.size 3 bv (ys.map (.int .i64))
  obc : OwnA X F H.size 4 bc (es.map .bool)
  od : OwnA X F H.size 3 dv (deg.map (.int .i64))
section
variable {H X X' : Heap} {F F' : Nat → Prop} {n b ga gb : Nat} {s s' : St} {av cv bv bc dv : Value} {xs ys deg : List Int} {es : List Bool} {ρ : Env}
theorem WholeC.chx (h : WholeC H X F b ga gb s av cv bv bc dv xs ys deg es) (cx : ChX (fun _ => False) F F' X X') (fs : FsH X' F' b s') : WholeC H X' F' b ga gb s' av cv bv bc dv xs ys deg es :=
  ⟨h.N.chx cx (fun _ e => e.elim), fs, ⟨Nat.lt_of_lt_of_le h.la.1 cx.size, cx.not h.la.1 h.la.2⟩, ⟨Nat.lt_of_lt_of_le h.lb.1 cx.size, cx.not h.lb.1 h.lb.2⟩, (cx.get _ h.la.1 h.la.2 (fun e => e)).trans h.ka, (cx.get _ h.lb.1 h.lb.2 (fun e => e)).trans h.kb,
    h.oa.keep cx (fun _ _ e => e), h.oc.keep cx (fun _ _ e => e), h.ob.keep cx (fun _ _ e => e), h.obc.keep cx (fun _ _ e => e), h.od.keep cx (fun _ _ e => e)⟩
theorem WholeC.ext (h : WholeC H X F b ga gb s av cv bv bc dv xs ys deg es) (x : Ext X X') : WholeC H X' F b ga gb s av cv bv bc dv xs ys deg es := h.chx x.chx (h.fs.ext x)
theorem WholeC.gets (h : WholeC H X F b ga gb s av cv bv bc dv xs ys deg es) : hget X ga 0 = some (.int .i64 0) ∧ hget X ga 1 = some av ∧ hget X ga 2 = some cv ∧ hget X gb 0 = some (.int .i64 9) ∧ hget X gb 1 = some bv ∧ hget X gb 2 = some bc := by
  rw [hget_cells h.ka, hget_cells h.ka, hget_cells h.ka, hget_cells h.kb, hget_cells h.kb, hget_cells h.kb]; exact ⟨rfl, rfl, rfl, rfl, rfl, rfl⟩
/-- The lists are checkpoints that fit. -/
structure WholeL (xs ys deg : List Int) (es : List Bool) : Prop where
  ma : mayC 1 0 xs es = true
  mb : mayC 1 9 ys es = true
  lx : xs.length = deg.length
  ly : ys.length = deg.length
  ll : deg.length ≤ 5000
  le : es.length ≤ 1000
  top : ∀ i, i < deg.length → deg.getD i 0 = 16777216
theorem WholeL.fits {p : Int} {zs : List Int} (L : WholeL xs ys deg es) (hm : mayC 1 p zs es = true) (hl : zs.length = deg.length) : fitsC zs es deg (es.length : Nat) = true := by
  refine decide_eq_true ⟨hl, rfl, fun i hi => ?_⟩
  rw [L.top i (by omega)]
  have := (mayC_iff.1 hm).2.2.2.2.2.2 (zs.getD i 0) (by rw [List.getD_eq_getElem?_getD, List.getElem?_eq_getElem hi]; exact List.getElem_mem _)
  omega
theorem WholeL.k {p : Int} {zs : List Int} (L : WholeL xs ys deg es) (hm : mayC 1 p zs es = true) (hl : zs.length = deg.length) {hd : List Int} {l : List (List Int)} (e1 : hd = chkHead 1 p zs es) (e2 : l = chkData zs es) : Byt hd ∧ (∀ y ∈ l, Byt y ∧ y.length ≤ 140737488350000) ∧ l.length ≤ 1000000000 := by
  have ll := L.ll
  have cl := chk_len (ds := es) (show zs.length ≤ 5000 by omega)
  rw [e1, e2]
  exact ⟨head_wf _ _ _ _, fun y hy => ⟨(chk_byt hm y hy).2, by have := (chk_byt hm y hy).1; omega⟩, by omega⟩
/-- What was loaded is one of the two. -/
theorem F4_36 {a2 c2 b2 t2 d2 m2 n2 g9 : Nat} {a1 c1 b1 t1 d1 m1 n1 : Option Addr} {e p : Int} {zs : List Int}
    (C : WholeC H X F b ga gb s (.slice a1 xs.length a2) (.slice c1 es.length c2) (.slice b1 ys.length b2) (.slice t1 es.length t2) (.slice d1 deg.length d2) xs ys deg es) (L : WholeL xs ys deg es) (hpz : (p = 9 ∧ zs = ys) ∨ (e = 81 ∧ p = 0 ∧ zs = xs)) (he : e = 0 ∨ e = 81)
    (k9 : X[g9]? = some (.cells #[.int .i64 p, .slice m1 zs.length m2, .slice n1 es.length n2] 28)) (iz : Ints X 3 .i64 (.slice m1 zs.length m2) zs) (ie : Bls X 4 (.slice n1 es.length n2) es)
    (e15 : ρ 15 = .pointer (some ⟨ga, 0, none⟩)) (e17 : ρ 17 = .pointer (some ⟨gb, 0, none⟩)) (e22 : ρ 22 = .int .i64 e) (e23 : ρ 23 = .pointer (some ⟨g9, 0, none⟩)) (e24 : ρ 24 = .bool true) (e25 : ρ 25 = .int .i64 0) :
    @vcI Tryz.prog (tyOf Tryz.prog) n c4_S36 ρ X ⟨finV (tyOf Tryz.prog) [.tmp 12] (fun r H' => r = .bool true ∧ Ext H H')⟩ := by
  have ll := L.ll
  have lx := L.lx
  have ly := L.ly
  have le := L.le
  have hzl : zs.length ≤ 5000 := by rcases hpz with ⟨_, rfl⟩ | ⟨_, _, rfl⟩ <;> omega
  have gg : ∀ {G : Heap}, Ext X G → hget G g9 0 = some (.int .i64 p) ∧ hget G g9 1 = some (.slice m1 zs.length m2) ∧ hget G g9 2 = some (.slice n1 es.length n2) := fun {G} x => by
    have := (x.get _ (Array.getElem?_eq_some_iff.1 k9).1).trans k9
    rw [hget_cells this, hget_cells this, hget_cells this]; exact ⟨rfl, rfl, rfl⟩
  obtain ⟨j0, j1, j2, j3, j4, j5⟩ := C.gets
  obtain ⟨i0, i1, i2⟩ := gg (ext_refl (H := X) ▸ trivial)
  simp only [go_sem, ↓reduceIte, Nat.reduceEqDiff, Nat.reduceLeDiff, Nat.reduceAdd, Nat.reduceMul, Nat.reduceSub, Nat.reduceBEq, Nat.reduceGT, Nat.reduceLT, Int.reduceLE, Int.reduceLT, Int.reduceNeg, reduceCtorEq, c4_S36, c4_S37, c4_S38, c4_S41, ptrOf, e15, e17, e22, e23, e24, e25, j0, j1, j2, i0, i1, i2]
  refine FunI.by (F25 _ _ p 0 zs xs es es X ⟨_, _, rfl, iz, ie⟩ ⟨_, _, rfl, C.oa.own.sl, C.oc.own.sl⟩ (by omega) (by omega)) ?_
  rintro _ H2 ⟨rfl, x2⟩
  have C2 := C.ext x2
  obtain ⟨j0, j1, j2, j3, j4, j5⟩ := C2.gets
  obtain ⟨i0, i1, i2⟩ := gg x2
  simp only [go_sem, ↓reduceIte, Nat.reduceEqDiff, Nat.reduceLeDiff, Nat.reduceAdd, Nat.reduceMul, Nat.reduceSub, Nat.reduceBEq, Nat.reduceGT, Nat.reduceLT, Int.reduceLE, Int.reduceLT, Int.reduceNeg, reduceCtorEq, ptrOf, e15, e17, e22, e23, e24, e25, j3, j4, j5, i0, i1, i2]
  refine FunI.by (F25 _ _ p 9 zs ys es es H2 ⟨_, _, rfl, iz.ext x2, ie.ext x2⟩ ⟨_, _, rfl, C2.ob.own.sl, C2.obc.own.sl⟩ (by omega) (by omega)) ?_
  rintro _ H3 ⟨rfl, x3⟩
  have C3 := C2.ext x3
  rcases hpz with ⟨rfl, rfl⟩ | ⟨rfl, rfl, rfl⟩
  · rcases he with rfl | rfl
    all_goals
      simp only [go_sem, ↓reduceIte, Nat.reduceEqDiff, Nat.reduceLeDiff, Nat.reduceAdd, Nat.reduceMul, Nat.reduceSub, Nat.reduceBEq, Nat.reduceGT, Nat.reduceLT, Int.reduceLE, Int.reduceLT, Int.reduceNeg, reduceCtorEq, ptrOf, e15, e17, e22, e23, e24, e25, Int.reduceEq, and_self, decide_true, false_and, decide_false]
      repeat (refine FunI.by (F16 _ _) ?_; rintro _ _ ⟨rfl, rfl⟩; simp only [go_sem, ↓reduceIte, Nat.reduceEqDiff, Nat.reduceLeDiff, Nat.reduceAdd, Nat.reduceMul, Nat.reduceSub, Nat.reduceBEq, Nat.reduceGT, Nat.reduceLT, Int.reduceLE, Int.reduceLT, Int.reduceNeg, reduceCtorEq, ptrOf, Int.reduceEq, e15, e17, e22, e23, e24, e25])
      exact C3.N.1
  · simp only [go_sem, ↓reduceIte, Nat.reduceEqDiff, Nat.reduceLeDiff, Nat.reduceAdd, Nat.reduceMul, Nat.reduceSub, Nat.reduceBEq, Nat.reduceGT, Nat.reduceLT, Int.reduceLE, Int.reduceLT, Int.reduceNeg, reduceCtorEq, ptrOf, e15, e17, e22, e23, e24, e25, Int.reduceEq, and_self, decide_true, false_and, decide_false]
    repeat (refine FunI.by (F16 _ _) ?_; rintro _ _ ⟨rfl, rfl⟩; simp only [go_sem, ↓reduceIte, Nat.reduceEqDiff, Nat.reduceLeDiff, Nat.reduceAdd, Nat.reduceMul, Nat.reduceSub, Nat.reduceBEq, Nat.reduceGT, Nat.reduceLT, Int.reduceLE, Int.reduceLT, Int.reduceNeg, reduceCtorEq, ptrOf, Int.reduceEq, e15, e17, e22, e23, e24, e25])
    exact C3.N.1
/-- Behind the crash one of the two is loaded. -/
theorem F4_34 {a2 c2 b2 t2 d2 : Nat} {a1 c1 b1 t1 d1 : Option Addr} {s2 s3 : St} {f : Nat} {e : Int} {cu : Value} {cuts : List Int} {dir : Int}
    (C : WholeC H X F b ga gb s3 (.slice a1 xs.length a2) (.slice c1 es.length c2) (.slice b1 ys.length b2) (.slice t1 es.length t2) (.slice d1 deg.length d2) xs ys deg es) (L : WholeL xs ys deg es) (ht : CrcTab H) (tab : Tab H) (W2 : WasN s2 (nmK 49) (rowB (fileR (chkHead 1 0 xs es) (chkData xs es))))
    (hf : f ∉ s2.held) (po : Out9 s2 s3 (tn (nmK 49)) (nmK 49) f (rowB (fileR (chkHead 1 9 ys es) (chkData ys es))) e) (hops : s3.ops ≤ 2000) (he : e = 0 ∨ e = 81) (hcu : Ints H 3 .i64 cu cuts) (hcl : cuts.length ≤ 17592186043904)
    (e4 : ρ 4 = .int .i64 dir) (e5 : ρ 5 = cu) (e14 : ρ 14 = .pointer (some ⟨b, 0, none⟩)) (e15 : ρ 15 = .pointer (some ⟨ga, 0, none⟩)) (e17 : ρ 17 = .pointer (some ⟨gb, 0, none⟩)) (e20 : ρ 20 = .slice d1 deg.length d2) (e22 : ρ 22 = .int .i64 e) :
    @vcI Tryz.prog (tyOf Tryz.prog) n c4_S34 ρ X ⟨finV (tyOf Tryz.prog) [.tmp 12] (fun r H' => r = .bool true ∧ Ext H H')⟩ := by
  obtain ⟨u1, u2, rfl⟩ := hcu.form
  have ll := L.ll
  have lx := L.lx
  have ly := L.ly
  have oo := out_ok po
  have nm1 : isNm (nmK 49) = true := by decide +kernel
  have ne1 : tn (nmK 49) ≠ nmK 49 := by decide +kernel
  have en : nameS 1 = nmK 49 := nameS_d (by omega)
  simp only [go_sem, ↓reduceIte, Nat.reduceEqDiff, Nat.reduceLeDiff, Nat.reduceAdd, Nat.reduceMul, Nat.reduceSub, Nat.reduceBEq, Nat.reduceGT, Nat.reduceLT, Int.reduceLE, Int.reduceLT, Int.reduceNeg, reduceCtorEq, c4_S34, c4_S35, e4, e5, e14, e15, e17, e20, e22]
  refine FunI.by (F9 _ cuts _ (hcu.ext C.N.1) (by omega)) ?_
  rintro w7 H7 ⟨o7, x7⟩
  have C7 := C.ext x7
  have l6 : ∀ g, F g → g < X.size := fun g hg => FsH.lt C.fs hg
  obtain ⟨_, _, _, _, _, hP7⟩ := C7.fs
  simp only [go_sem, ↓reduceIte, Nat.reduceEqDiff, Nat.reduceLeDiff, Nat.reduceAdd, Nat.reduceMul, Nat.reduceSub, Nat.reduceBEq, Nat.reduceGT, Nat.reduceLT, Int.reduceLE, Int.reduceLT, Int.reduceNeg, reduceCtorEq, ptrOf, e4, e5, e14, e15, e17, e20, e22]
  refine FunI.by (F24 hP7 oo.1 (by omega) dir (cuts := cuts) o7.sl (fun _ g hg e => by have := (o7.blk hg).1; have := l6 g e; omega)) ?_
  rintro w8 H8 ⟨ns, F8, hns, h8, ch8⟩
  have cp := crash_pub W2.ok W2.pend W2.last hf nm1 ne1 po oo.1 dir cuts ns
  have pc8 := (crash_peace oo.1 dir cuts ns).1
  have C8 := C7.chx ch8.chx h8
  obtain ⟨sc, hsc⟩ : ∃ z, z = crashS s3 dir cuts ns := ⟨_, rfl⟩
  rw [← hsc] at cp pc8 C8
  have cas : ∀ hd l e9, Loads sc (nameS 1) hd l e9 → (hd = chkHead 1 9 ys es ∧ l = chkData ys es ∧ e9 = 0) ∨ (e = 81 ∧ hd = chkHead 1 0 xs es ∧ l = chkData xs es ∧ e9 = 0) := by
    intro hd l e9 hL
    rw [en] at hL
    rcases cp with ⟨k1, k2, _⟩ | ⟨ke, k1, k2⟩
    · exact .inl (loads_file pc8 k1 k2 (by rw [head_len]; omega) (fun p hp => (chk_byt L.mb p hp).1) hL)
    · obtain ⟨y, y1, y2, y3⟩ := W2.file
      exact .inr ⟨ke, loads_file pc8 (k1.trans y1) ((k2 y (W2.ok.nowH _ _ y1) y3).trans y2) (by rw [head_len]; omega) (fun p hp => (chk_byt L.ma p hp).1) hL⟩
  obtain ⟨j0, j1, j2, j3, j4, j5⟩ := C8.gets
  simp only [go_sem, ↓reduceIte, Nat.reduceEqDiff, Nat.reduceLeDiff, Nat.reduceAdd, Nat.reduceMul, Nat.reduceSub, Nat.reduceBEq, Nat.reduceGT, Nat.reduceLT, Int.reduceLE, Int.reduceLT, Int.reduceNeg, reduceCtorEq, ptrOf, e4, e5, e14, e15, e17, e20, e22, j2]
  refine FunI.by (F18 _ 1 (es.length : Nat) deg H8 C8.fs pc8.ok pc8.on (C8.N.stg0 ht).2 (tab.ext C8.N.1) C8.od.own.sl (by omega) (fun hd l e9 hL => by
    rcases cas hd l e9 hL with ⟨q1, q2, _⟩ | ⟨_, q1, q2, _⟩
    · exact L.k L.mb L.ly q1 q2
    · exact L.k L.ma L.lx q1 q2)) ?_
  rintro _ H9 ⟨x9, hd, l, e9, hL, hr⟩
  have got : ∃ p zs, ((p = 9 ∧ zs = ys) ∨ (e = 81 ∧ p = 0 ∧ zs = xs)) ∧ cloadS 1 hd l e9 deg (es.length : Nat) = some (p, zs, es) := by
    rcases cas hd l e9 hL with ⟨rfl, rfl, rfl⟩ | ⟨q0, rfl, rfl, rfl⟩
    · exact ⟨9, ys, .inl ⟨rfl, rfl⟩, by rw [cloadS_back L.mb, if_pos (L.fits L.mb L.ly)]⟩
    · exact ⟨0, xs, .inr ⟨q0, rfl, rfl⟩, by rw [cloadS_back L.ma, if_pos (L.fits L.ma L.lx)]⟩
  obtain ⟨p, zs, hpz, hz⟩ := got
  rw [hz] at hr
  obtain ⟨v1, v2, rfl, ov1, ov2⟩ := hr
  have hzl : zs.length = deg.length := by rcases hpz with ⟨_, rfl⟩ | ⟨_, _, rfl⟩ <;> omega
  obtain ⟨m1, m2, rfl⟩ := Ints.form (xs := zs) (k := .i64) ov1.sl
  obtain ⟨n1, n2, rfl⟩ := Bls.form (bs := es) ov2.sl
  simp only [go_sem, ↓reduceIte, Nat.reduceEqDiff, Nat.reduceLeDiff, Nat.reduceAdd, Nat.reduceMul, Nat.reduceSub, Nat.reduceBEq, Nat.reduceGT, Nat.reduceLT, Int.reduceLE, Int.reduceLT, Int.reduceNeg, reduceCtorEq, ptrOf, hput_push3, hcan_push, List.all_cons, List.all_nil, Value.oneCell', e4, e5, e14, e15, e17, e20, e22]
  obtain ⟨HA, hHA⟩ : ∃ G, G = H9.push (.cells #[.int .i64 p, .slice m1 zs.length m2, .slice n1 es.length n2] 28) := ⟨_, rfl⟩
  have xA0 : Ext H9 HA := by rw [hHA]; exact Ext.push _
  have kA : HA[H9.size]? = some (.cells #[.int .i64 p, .slice m1 zs.length m2, .slice n1 es.length n2] 28) := by rw [hHA]; exact push_new
  rw [← hHA]
  have CA := C8.ext (x9.trans (xA0.mono x9.size))
  have iz : Ints HA 3 .i64 (.slice m1 zs.length m2) zs := (ov1.ext xA0).sl
  have ie : Bls HA 4 (.slice n1 es.length n2) es := (ov2.ext xA0).sl
  exact F4_36 CA L hpz he kA iz ie (by simp only [go_sem, ↓reduceIte, Nat.reduceEqDiff, Nat.reduceLeDiff, Nat.reduceAdd, Nat.reduceMul, Nat.reduceSub, Nat.reduceBEq, Nat.reduceGT, Nat.reduceLT, Int.reduceLE, Int.reduceLT, Int.reduceNeg, reduceCtorEq, e15]) (by simp only [go_sem, ↓reduceIte, Nat.reduceEqDiff, Nat.reduceLeDiff, Nat.reduceAdd, Nat.reduceMul, Nat.reduceSub, Nat.reduceBEq, Nat.reduceGT, Nat.reduceLT, Int.reduceLE, Int.reduceLT, Int.reduceNeg, reduceCtorEq, e17]) (by simp only [go_sem, ↓reduceIte, Nat.reduceEqDiff, Nat.reduceLeDiff, Nat.reduceAdd, Nat.reduceMul, Nat.reduceSub, Nat.reduceBEq, Nat.reduceGT, Nat.reduceLT, Int.reduceLE, Int.reduceLT, Int.reduceNeg, reduceCtorEq, e22]) (by simp only [go_sem, ↓reduceIte, Nat.reduceEqDiff, Nat.reduceLeDiff, Nat.reduceAdd, Nat.reduceMul, Nat.reduceSub, Nat.reduceBEq, Nat.reduceGT, Nat.reduceLT, Int.reduceLE, Int.reduceLT, Int.reduceNeg, reduceCtorEq]) (by simp only [go_sem, ↓reduceIte, Nat.reduceEqDiff, Nat.reduceLeDiff, Nat.reduceAdd, Nat.reduceMul, Nat.reduceSub, Nat.reduceBEq, Nat.reduceGT, Nat.reduceLT, Int.reduceLE, Int.reduceLT, Int.reduceNeg, reduceCtorEq]) (by simp only [go_sem, ↓reduceIte, Nat.reduceEqDiff, Nat.reduceLeDiff, Nat.reduceAdd, Nat.reduceMul, Nat.reduceSub, Nat.reduceBEq, Nat.reduceGT, Nat.reduceLT, Int.reduceLE, Int.reduceLT, Int.reduceNeg, reduceCtorEq])
/-- A Save over an older one, the power failing. -/
theorem F4_30 {a2 c2 b2 t2 d2 : Nat} {a1 c1 b1 t1 d1 : Option Addr} {cu : Value} {cuts : List Int} {dir k : Int}
    (C : WholeC H X F b ga gb s (.slice a1 xs.length a2) (.slice c1 es.length c2) (.slice b1 ys.length b2) (.slice t1 es.length t2) (.slice d1 deg.length d2) xs ys deg es) (L : WholeL xs ys deg es) (ht : CrcTab H) (tab : Tab H) (W : WasN s (nmK 49) (rowB (fileR (chkHead 1 0 xs es) (chkData xs es))))
    (hcu : Ints H 3 .i64 cu cuts) (hcl : cuts.length ≤ 17592186043904)
    (e3 : ρ 3 = .int .i64 k) (e4 : ρ 4 = .int .i64 dir) (e5 : ρ 5 = cu) (e14 : ρ 14 = .pointer (some ⟨b, 0, none⟩)) (e15 : ρ 15 = .pointer (some ⟨ga, 0, none⟩)) (e17 : ρ 17 = .pointer (some ⟨gb, 0, none⟩)) (e20 : ρ 20 = .slice d1 deg.length d2) :
    @vcI Tryz.prog (tyOf Tryz.prog) n c4_S30 ρ X ⟨finV (tyOf Tryz.prog) [.tmp 12] (fun r H' => r = .bool true ∧ Ext H H')⟩ := by
  have tail : ∀ {X2 : Heap} {F2 : Nat → Prop} {s2 : St} {ρ2 : Env}, WholeC H X2 F2 b ga gb s2 (.slice a1 xs.length a2) (.slice c1 es.length c2) (.slice b1 ys.length b2) (.slice t1 es.length t2) (.slice d1 deg.length d2) xs ys deg es → WasN s2 (nmK 49) (rowB (fileR (chkHead 1 0 xs es) (chkData xs es))) →
      ρ2 4 = .int .i64 dir → ρ2 5 = cu → ρ2 14 = .pointer (some ⟨b, 0, none⟩) → ρ2 15 = .pointer (some ⟨ga, 0, none⟩) → ρ2 17 = .pointer (some ⟨gb, 0, none⟩) → ρ2 20 = .slice d1 deg.length d2 →
      @vcI Tryz.prog (tyOf Tryz.prog) n c4_S33 ρ2 X2 ⟨finV (tyOf Tryz.prog) [.tmp 12] (fun r H' => r = .bool true ∧ Ext H H')⟩ := by
    intro X2 F2 s2 ρ2 C W e4 e5 e14 e15 e17 e20
    have ll := L.ll
    have ly := L.ly
    have nm1 : isNm (nmK 49) = true := by decide +kernel
    have tn1 : isNm (tn (nmK 49)) = true := by decide +kernel
    have en : nameS 1 = nmK 49 := nameS_d (by omega)
    obtain ⟨f2, t2'⟩ := C.N.stg0 ht
    obtain ⟨j0, j1, j2, j3, j4, j5⟩ := C.gets
    have hops := W.ops
    have hroom := W.room
    have hsum := W.sum
    simp only [go_sem, ↓reduceIte, Nat.reduceEqDiff, Nat.reduceLeDiff, Nat.reduceAdd, Nat.reduceMul, Nat.reduceSub, Nat.reduceBEq, Nat.reduceGT, Nat.reduceLT, Int.reduceLE, Int.reduceLT, Int.reduceNeg, reduceCtorEq, c4_S33, e4, e5, e14, e15, e17, e20, j3, j4, j5]
    refine FunI.by (F12 _ 1 9 ys es X2 C.fs W.ok (by omega) f2 t2' (tab.ext C.N.1) ⟨_, _, rfl, C.ob.own.sl, C.obc.own.sl⟩ L.mb (by omega)) ?_
    rintro _ H5 ⟨f, F5, hf, rfl, h5, cx5⟩
    rw [en] at h5 ⊢
    have cf := chk_file L.mb (by omega : ys.length ≤ 5000)
    have hh := head_len 1 9 ys es
    have po := pub_power W.ok W.on nm1 tn1 W.tmp hf (hd := chkHead 1 9 ys es) (l := chkData ys es) (by omega) (head_wf _ _ _ _) (chk_byt L.mb) (by omega)
    have cl := chk_len (ds := es) (show ys.length ≤ 5000 by omega)
    have pops := pub_ops s2 (nmK 49) (chkHead 1 9 ys es) (chkData ys es) f
    obtain ⟨r, hr⟩ : ∃ r, r = pubS s2 (nmK 49) (chkHead 1 9 ys es) (chkData ys es) f := ⟨_, rfl⟩
    rw [← hr] at po h5 pops ⊢
    obtain ⟨s3, e3⟩ := r
    simp only at po h5 pops
    have he : e3 = 0 ∨ e3 = 81 := (out_ok po).2.imp id fun e => e.2
    simp only [go_sem, ↓reduceIte, Nat.reduceEqDiff, Nat.reduceLeDiff, Nat.reduceAdd, Nat.reduceMul, Nat.reduceSub, Nat.reduceBEq, Nat.reduceGT, Nat.reduceLT, Int.reduceLE, Int.reduceLT, Int.reduceNeg, reduceCtorEq]
    exact F4_34 (dir := dir) (C.chx cx5 h5) L ht tab W hf po (by omega) he hcu hcl (by simp only [go_sem, ↓reduceIte, Nat.reduceEqDiff, Nat.reduceLeDiff, Nat.reduceAdd, Nat.reduceMul, Nat.reduceSub, Nat.reduceBEq, Nat.reduceGT, Nat.reduceLT, Int.reduceLE, Int.reduceLT, Int.reduceNeg, reduceCtorEq, e4]) (by simp only [go_sem, ↓reduceIte, Nat.reduceEqDiff, Nat.reduceLeDiff, Nat.reduceAdd, Nat.reduceMul, Nat.reduceSub, Nat.reduceBEq, Nat.reduceGT, Nat.reduceLT, Int.reduceLE, Int.reduceLT, Int.reduceNeg, reduceCtorEq, e5]) (by simp only [go_sem, ↓reduceIte, Nat.reduceEqDiff, Nat.reduceLeDiff, Nat.reduceAdd, Nat.reduceMul, Nat.reduceSub, Nat.reduceBEq, Nat.reduceGT, Nat.reduceLT, Int.reduceLE, Int.reduceLT, Int.reduceNeg, reduceCtorEq, e14]) (by simp only [go_sem, ↓reduceIte, Nat.reduceEqDiff, Nat.reduceLeDiff, Nat.reduceAdd, Nat.reduceMul, Nat.reduceSub, Nat.reduceBEq, Nat.reduceGT, Nat.reduceLT, Int.reduceLE, Int.reduceLT, Int.reduceNeg, reduceCtorEq, e15]) (by simp only [go_sem, ↓reduceIte, Nat.reduceEqDiff, Nat.reduceLeDiff, Nat.reduceAdd, Nat.reduceMul, Nat.reduceSub, Nat.reduceBEq, Nat.reduceGT, Nat.reduceLT, Int.reduceLE, Int.reduceLT, Int.reduceNeg, reduceCtorEq, e17]) (by simp only [go_sem, ↓reduceIte, Nat.reduceEqDiff, Nat.reduceLeDiff, Nat.reduceAdd, Nat.reduceMul, Nat.reduceSub, Nat.reduceBEq, Nat.reduceGT, Nat.reduceLT, Int.reduceLE, Int.reduceLT, Int.reduceNeg, reduceCtorEq, e20]) (by simp only [go_sem, ↓reduceIte, Nat.reduceEqDiff, Nat.reduceLeDiff, Nat.reduceAdd, Nat.reduceMul, Nat.reduceSub, Nat.reduceBEq, Nat.reduceGT, Nat.reduceLT, Int.reduceLE, Int.reduceLT, Int.reduceNeg, reduceCtorEq])
  rcases (by omega : (0 < k ∧ k < 1000) ∨ ¬ 0 < k ∨ (0 < k ∧ ¬ k < 1000)) with ⟨c1, c2⟩ | c1 | ⟨c1, c2⟩
  · simp only [go_sem, ↓reduceIte, Nat.reduceEqDiff, Nat.reduceLeDiff, Nat.reduceAdd, Nat.reduceMul, Nat.reduceSub, Nat.reduceBEq, Nat.reduceGT, Nat.reduceLT, Int.reduceLE, Int.reduceLT, Int.reduceNeg, reduceCtorEq, c4_S30, e3, e4, e5, e14, e15, e17, e20, c1, c2]
    refine FunI.by (F23 C.fs k) ?_
    rintro _ HA ⟨rfl, hf2, chA⟩
    simp only [go_sem, ↓reduceIte, Nat.reduceEqDiff, Nat.reduceLeDiff, Nat.reduceAdd, Nat.reduceMul, Nat.reduceSub, Nat.reduceBEq, Nat.reduceGT, Nat.reduceLT, Int.reduceLE, Int.reduceLT, Int.reduceNeg, reduceCtorEq]
    exact tail (C.chx chA.chx hf2) (W.arm c1 c2) (by simp only [go_sem, ↓reduceIte, Nat.reduceEqDiff, Nat.reduceLeDiff, Nat.reduceAdd, Nat.reduceMul, Nat.reduceSub, Nat.reduceBEq, Nat.reduceGT, Nat.reduceLT, Int.reduceLE, Int.reduceLT, Int.reduceNeg, reduceCtorEq, e4]) (by simp only [go_sem, ↓reduceIte, Nat.reduceEqDiff, Nat.reduceLeDiff, Nat.reduceAdd, Nat.reduceMul, Nat.reduceSub, Nat.reduceBEq, Nat.reduceGT, Nat.reduceLT, Int.reduceLE, Int.reduceLT, Int.reduceNeg, reduceCtorEq, e5]) (by simp only [go_sem, ↓reduceIte, Nat.reduceEqDiff, Nat.reduceLeDiff, Nat.reduceAdd, Nat.reduceMul, Nat.reduceSub, Nat.reduceBEq, Nat.reduceGT, Nat.reduceLT, Int.reduceLE, Int.reduceLT, Int.reduceNeg, reduceCtorEq, e14]) (by simp only [go_sem, ↓reduceIte, Nat.reduceEqDiff, Nat.reduceLeDiff, Nat.reduceAdd, Nat.reduceMul, Nat.reduceSub, Nat.reduceBEq, Nat.reduceGT, Nat.reduceLT, Int.reduceLE, Int.reduceLT, Int.reduceNeg, reduceCtorEq, e15]) (by simp only [go_sem, ↓reduceIte, Nat.reduceEqDiff, Nat.reduceLeDiff, Nat.reduceAdd, Nat.reduceMul, Nat.reduceSub, Nat.reduceBEq, Nat.reduceGT, Nat.reduceLT, Int.reduceLE, Int.reduceLT, Int.reduceNeg, reduceCtorEq, e17]) (by simp only [go_sem, ↓reduceIte, Nat.reduceEqDiff, Nat.reduceLeDiff, Nat.reduceAdd, Nat.reduceMul, Nat.reduceSub, Nat.reduceBEq, Nat.reduceGT, Nat.reduceLT, Int.reduceLE, Int.reduceLT, Int.reduceNeg, reduceCtorEq, e20])
  · simp only [go_sem, ↓reduceIte, Nat.reduceEqDiff, Nat.reduceLeDiff, Nat.reduceAdd, Nat.reduceMul, Nat.reduceSub, Nat.reduceBEq, Nat.reduceGT, Nat.reduceLT, Int.reduceLE, Int.reduceLT, Int.reduceNeg, reduceCtorEq, c4_S30, e3, e4, e5, e14, e15, e17, e20, c1]
    exact tail C W (by simp only [go_sem, ↓reduceIte, Nat.reduceEqDiff, Nat.reduceLeDiff, Nat.reduceAdd, Nat.reduceMul, Nat.reduceSub, Nat.reduceBEq, Nat.reduceGT, Nat.reduceLT, Int.reduceLE, Int.reduceLT, Int.reduceNeg, reduceCtorEq, e4]) (by simp only [go_sem, ↓reduceIte, Nat.reduceEqDiff, Nat.reduceLeDiff, Nat.reduceAdd, Nat.reduceMul, Nat.reduceSub, Nat.reduceBEq, Nat.reduceGT, Nat.reduceLT, Int.reduceLE, Int.reduceLT, Int.reduceNeg, reduceCtorEq, e5]) (by simp only [go_sem, ↓reduceIte, Nat.reduceEqDiff, Nat.reduceLeDiff, Nat.reduceAdd, Nat.reduceMul, Nat.reduceSub, Nat.reduceBEq, Nat.reduceGT, Nat.reduceLT, Int.reduceLE, Int.reduceLT, Int.reduceNeg, reduceCtorEq, e14]) (by simp only [go_sem, ↓reduceIte, Nat.reduceEqDiff, Nat.reduceLeDiff, Nat.reduceAdd, Nat.reduceMul, Nat.reduceSub, Nat.reduceBEq, Nat.reduceGT, Nat.reduceLT, Int.reduceLE, Int.reduceLT, Int.reduceNeg, reduceCtorEq, e15]) (by simp only [go_sem, ↓reduceIte, Nat.reduceEqDiff, Nat.reduceLeDiff, Nat.reduceAdd, Nat.reduceMul, Nat.reduceSub, Nat.reduceBEq, Nat.reduceGT, Nat.reduceLT, Int.reduceLE, Int.reduceLT, Int.reduceNeg, reduceCtorEq, e17]) (by simp only [go_sem, ↓reduceIte, Nat.reduceEqDiff, Nat.reduceLeDiff, Nat.reduceAdd, Nat.reduceMul, Nat.reduceSub, Nat.reduceBEq, Nat.reduceGT, Nat.reduceLT, Int.reduceLE, Int.reduceLT, Int.reduceNeg, reduceCtorEq, e20])
  · simp only [go_sem, ↓reduceIte, Nat.reduceEqDiff, Nat.reduceLeDiff, Nat.reduceAdd, Nat.reduceMul, Nat.reduceSub, Nat.reduceBEq, Nat.reduceGT, Nat.reduceLT, Int.reduceLE, Int.reduceLT, Int.reduceNeg, reduceCtorEq, c4_S30, e3, e4, e5, e14, e15, e17, e20, c1, c2]
    exact tail C W (by simp only [go_sem, ↓reduceIte, Nat.reduceEqDiff, Nat.reduceLeDiff, Nat.reduceAdd, Nat.reduceMul, Nat.reduceSub, Nat.reduceBEq, Nat.reduceGT, Nat.reduceLT, Int.reduceLE, Int.reduceLT, Int.reduceNeg, reduceCtorEq, e4]) (by simp only [go_sem, ↓reduceIte, Nat.reduceEqDiff, Nat.reduceLeDiff, Nat.reduceAdd, Nat.reduceMul, Nat.reduceSub, Nat.reduceBEq, Nat.reduceGT, Nat.reduceLT, Int.reduceLE, Int.reduceLT, Int.reduceNeg, reduceCtorEq, e5]) (by simp only [go_sem, ↓reduceIte, Nat.reduceEqDiff, Nat.reduceLeDiff, Nat.reduceAdd, Nat.reduceMul, Nat.reduceSub, Nat.reduceBEq, Nat.reduceGT, Nat.reduceLT, Int.reduceLE, Int.reduceLT, Int.reduceNeg, reduceCtorEq, e14]) (by simp only [go_sem, ↓reduceIte, Nat.reduceEqDiff, Nat.reduceLeDiff, Nat.reduceAdd, Nat.reduceMul, Nat.reduceSub, Nat.reduceBEq, Nat.reduceGT, Nat.reduceLT, Int.reduceLE, Int.reduceLT, Int.reduceNeg, reduceCtorEq, e15]) (by simp only [go_sem, ↓reduceIte, Nat.reduceEqDiff, Nat.reduceLeDiff, Nat.reduceAdd, Nat.reduceMul, Nat.reduceSub, Nat.reduceBEq, Nat.reduceGT, Nat.reduceLT, Int.reduceLE, Int.reduceLT, Int.reduceNeg, reduceCtorEq, e17]) (by simp only [go_sem, ↓reduceIte, Nat.reduceEqDiff, Nat.reduceLeDiff, Nat.reduceAdd, Nat.reduceMul, Nat.reduceSub, Nat.reduceBEq, Nat.reduceGT, Nat.reduceLT, Int.reduceLE, Int.reduceLT, Int.reduceNeg, reduceCtorEq, e20])
/-- The first Save. -/
theorem F4_26 {a2 c2 b2 t2 d2 : Nat} {a1 c1 b1 t1 d1 : Option Addr} {cu : Value} {cuts : List Int} {dir k : Int}
    (C : WholeC H X F b ga gb (freshS 1048576) (.slice a1 xs.length a2) (.slice c1 es.length c2) (.slice b1 ys.length b2) (.slice t1 es.length t2) (.slice d1 deg.length d2) xs ys deg es) (L : WholeL xs ys deg es) (ht : CrcTab H) (tab : Tab H)
    (hcu : Ints H 3 .i64 cu cuts) (hcl : cuts.length ≤ 17592186043904)
    (e3 : ρ 3 = .int .i64 k) (e4 : ρ 4 = .int .i64 dir) (e5 : ρ 5 = cu) (e14 : ρ 14 = .pointer (some ⟨b, 0, none⟩)) (e15 : ρ 15 = .pointer (some ⟨ga, 0, none⟩)) (e17 : ρ 17 = .pointer (some ⟨gb, 0, none⟩)) (e20 : ρ 20 = .slice d1 deg.length d2) :
    @vcI Tryz.prog (tyOf Tryz.prog) n c4_S26 ρ X ⟨finV (tyOf Tryz.prog) [.tmp 12] (fun r H' => r = .bool true ∧ Ext H H')⟩ := by
  have ll := L.ll
  have lx := L.lx
  have p0 : Peace (freshS 1048576) := Peace.fresh (by omega)
  have nm1 : isNm (nmK 49) = true := by decide +kernel
  have tn1 : isNm (tn (nmK 49)) = true := by decide +kernel
  have ne1 : tn (nmK 49) ≠ nmK 49 := by decide +kernel
  have en : nameS 1 = nmK 49 := nameS_d (by omega)
  obtain ⟨f2, t2'⟩ := C.N.stg0 ht
  obtain ⟨j0, j1, j2, j3, j4, j5⟩ := C.gets
  have e0 : (freshS 1048576).ops = 0 := rfl
  simp only [go_sem, ↓reduceIte, Nat.reduceEqDiff, Nat.reduceLeDiff, Nat.reduceAdd, Nat.reduceMul, Nat.reduceSub, Nat.reduceBEq, Nat.reduceGT, Nat.reduceLT, Int.reduceLE, Int.reduceLT, Int.reduceNeg, reduceCtorEq, c4_S26, c4_S27, e3, e4, e5, e14, e15, e17, e20, j0, j1, j2]
  refine FunI.by (F12 _ 1 0 xs es X C.fs p0.ok (by omega) f2 t2' (tab.ext C.N.1) ⟨_, _, rfl, C.oa.own.sl, C.oc.own.sl⟩ L.ma (by omega)) ?_
  rintro _ H5 ⟨f, F5, hf, rfl, h5, cx5⟩
  rw [en] at h5 ⊢
  have cf := chk_file L.ma (by omega : xs.length ≤ 5000)
  have hh := head_len 1 0 xs es
  have po := pub_power p0.ok p0.on nm1 tn1 rfl hf (hd := chkHead 1 0 xs es) (l := chkData xs es) (by omega) (head_wf _ _ _ _) (chk_byt L.ma) (by rw [held_fresh]; show _ ≤ (1048576 : Int); omega)
  have cl := chk_len (ds := es) (show xs.length ≤ 5000 by omega)
  have pops := pub_ops (freshS 1048576) (nmK 49) (chkHead 1 0 xs es) (chkData xs es) f
  obtain ⟨r, hr⟩ : ∃ r, r = pubS (freshS 1048576) (nmK 49) (chkHead 1 0 xs es) (chkData xs es) f := ⟨_, rfl⟩
  rw [← hr] at po h5 pops ⊢
  obtain ⟨s, e⟩ := r
  have he : e = 0 := by
    rcases (out_ok po).2 with e | ⟨e, _⟩
    · exact e
    · exact absurd e (by decide)
  subst he
  have hfin : Fin (freshS 1048576) s (tn (nmK 49)) (nmK 49) f (rowB (fileR (chkHead 1 0 xs es) (chkData xs es))) := by
    cases po with
    | fin h => exact h
  obtain ⟨W, pc⟩ := WasN.first nm1 tn1 ne1 hfin (by omega) (by simp only at pops; omega)
  simp only [go_sem, ↓reduceIte, Nat.reduceEqDiff, Nat.reduceLeDiff, Nat.reduceAdd, Nat.reduceMul, Nat.reduceSub, Nat.reduceBEq, Nat.reduceGT, Nat.reduceLT, Int.reduceLE, Int.reduceLT, Int.reduceNeg, reduceCtorEq, ptrOf, e3, e4, e5, e14, e15, e17, e20]
  refine FunI.by (F16 _ _) ?_
  rintro _ _ ⟨rfl, rfl⟩
  simp only [go_sem, ↓reduceIte, Nat.reduceEqDiff, Nat.reduceLeDiff, Nat.reduceAdd, Nat.reduceMul, Nat.reduceSub, Nat.reduceBEq, Nat.reduceGT, Nat.reduceLT, Int.reduceLE, Int.reduceLT, Int.reduceNeg, reduceCtorEq, ptrOf, Int.reduceEq, e3, e4, e5, e14, e15, e17, e20]
  exact F4_30 (k := k) (dir := dir) (C.chx cx5 h5) L ht tab W hcu hcl (by simp only [go_sem, ↓reduceIte, Nat.reduceEqDiff, Nat.reduceLeDiff, Nat.reduceAdd, Nat.reduceMul, Nat.reduceSub, Nat.reduceBEq, Nat.reduceGT, Nat.reduceLT, Int.reduceLE, Int.reduceLT, Int.reduceNeg, reduceCtorEq, e3]) (by simp only [go_sem, ↓reduceIte, Nat.reduceEqDiff, Nat.reduceLeDiff, Nat.reduceAdd, Nat.reduceMul, Nat.reduceSub, Nat.reduceBEq, Nat.reduceGT, Nat.reduceLT, Int.reduceLE, Int.reduceLT, Int.reduceNeg, reduceCtorEq, e4]) (by simp only [go_sem, ↓reduceIte, Nat.reduceEqDiff, Nat.reduceLeDiff, Nat.reduceAdd, Nat.reduceMul, Nat.reduceSub, Nat.reduceBEq, Nat.reduceGT, Nat.reduceLT, Int.reduceLE, Int.reduceLT, Int.reduceNeg, reduceCtorEq, e5]) (by simp only [go_sem, ↓reduceIte, Nat.reduceEqDiff, Nat.reduceLeDiff, Nat.reduceAdd, Nat.reduceMul, Nat.reduceSub, Nat.reduceBEq, Nat.reduceGT, Nat.reduceLT, Int.reduceLE, Int.reduceLT, Int.reduceNeg, reduceCtorEq, e14]) (by simp only [go_sem, ↓reduceIte, Nat.reduceEqDiff, Nat.reduceLeDiff, Nat.reduceAdd, Nat.reduceMul, Nat.reduceSub, Nat.reduceBEq, Nat.reduceGT, Nat.reduceLT, Int.reduceLE, Int.reduceLT, Int.reduceNeg, reduceCtorEq, e15]) (by simp only [go_sem, ↓reduceIte, Nat.reduceEqDiff, Nat.reduceLeDiff, Nat.reduceAdd, Nat.reduceMul, Nat.reduceSub, Nat.reduceBEq, Nat.reduceGT, Nat.reduceLT, Int.reduceLE, Int.reduceLT, Int.reduceNeg, reduceCtorEq, e17]) (by simp only [go_sem, ↓reduceIte, Nat.reduceEqDiff, Nat.reduceLeDiff, Nat.reduceAdd, Nat.reduceMul, Nat.reduceSub, Nat.reduceBEq, Nat.reduceGT, Nat.reduceLT, Int.reduceLE, Int.reduceLT, Int.reduceNeg, reduceCtorEq, e20])
end
/-- The two checkpoints and the file system, ahead of the degrees. -/
structure WholeB (H X : Heap) (F : Nat → Prop) (b ga gb : Nat) (av cv bv bc : Value) (xs ys : List Int) (es : List Bool) : Prop where
  N : Newly H X F
  fs : FsH X F b (freshS 1048576)
  la : H.size ≤ ga ∧ ga < X.size ∧ ¬ F ga
  lb : H.size ≤ gb ∧ gb < X.size ∧ ¬ F gb
  ka : X[ga]? = some (.cells #[.int .i64 0, av, cv] 28)
  kb : X[gb]? = some (.cells #[.int .i64 9, bv, bc] 28)
  oa : OwnA X F H.size 3 av (xs.map (.int .i64))
  oc : OwnA X F H.size 4 cv (es.map .bool)
  ob : OwnA X F H.size 3 bv (ys.map (.int .i64))
  obc : OwnA X F H.size 4 bc (es.map .bool)
  ap : Apart av bv
section
variable {H X X' : Heap} {F : Nat → Prop} {n b ga gb : Nat} {av cv bv bc : Value} {xs ys : List Int} {es : List Bool} {ρ : Env}
theorem WholeB.keep (h : WholeB H X F b ga gb av cv bv bc xs ys es) (hs : X.size ≤ X'.size) (hk : ∀ g, g < X.size → F g ∨ g = ga ∨ g = gb ∨ blk av = some g ∨ blk cv = some g ∨ blk bv = some g ∨ blk bc = some g ∨ g < H.size → X'[g]? = X[g]?) : WholeB H X' F b ga gb av cv bv bc xs ys es := by
  refine ⟨⟨⟨Nat.le_trans h.N.1.size hs, fun g hg => ?_⟩, h.N.2⟩, ?_, ⟨h.la.1, Nat.lt_of_lt_of_le h.la.2.1 hs, h.la.2.2⟩, ⟨h.lb.1, Nat.lt_of_lt_of_le h.lb.2.1 hs, h.lb.2.2⟩, ?_, ?_, ?_, ?_, ?_, ?_, h.ap⟩
  · rw [hk g (Nat.lt_of_lt_of_le hg h.N.1.size) (by simp [hg])]; exact h.N.1.get g hg
  · obtain ⟨_, _, _, _, _, p⟩ := h.fs
    exact ⟨_, _, _, _, _, p.keep hs fun g hg => hk g (p.lt g hg) (.inl hg)⟩
  · rw [hk _ h.la.2.1 (by simp)]; exact h.ka
  · rw [hk _ h.lb.2.1 (by simp)]; exact h.kb
  · exact ⟨h.oa.own.keep fun g hg => hk g (h.oa.own.blk hg).2.1 (by simp [hg]), h.oa.aw⟩
  · exact ⟨h.oc.own.keep fun g hg => hk g (h.oc.own.blk hg).2.1 (by simp [hg]), h.oc.aw⟩
  · exact ⟨h.ob.own.keep fun g hg => hk g (h.ob.own.blk hg).2.1 (by simp [hg]), h.ob.aw⟩
  · exact ⟨h.obc.own.keep fun g hg => hk g (h.obc.own.blk hg).2.1 (by simp [hg]), h.obc.aw⟩
theorem WholeB.ext (h : WholeB H X F b ga gb av cv bv bc xs ys es) (x : Ext X X') : WholeB H X' F b ga gb av cv bv bc xs ys es := h.keep x.size fun g hg _ => x.get g hg
/-- Degrees that nothing exceeds. -/
theorem F4_17 {a2 c2 b2 t2 : Nat} {a1 c1 b1 t1 : Option Addr} {cu : Value} {cuts : List Int} {dir k : Int}
    (C : WholeB H X F b ga gb (.slice a1 xs.length a2) (.slice c1 es.length c2) (.slice b1 ys.length b2) (.slice t1 es.length t2) xs ys es) (ma : mayC 1 0 xs es = true) (mb : mayC 1 9 ys es = true) (ll : xs.length ≤ 5000) (ly : ys.length = xs.length) (le : es.length ≤ 1000) (ht : CrcTab H) (tab : Tab H)
    (hcu : Ints H 3 .i64 cu cuts) (hcl : cuts.length ≤ 17592186043904)
    (e3 : ρ 3 = .int .i64 k) (e4 : ρ 4 = .int .i64 dir) (e5 : ρ 5 = cu) (e14 : ρ 14 = .pointer (some ⟨b, 0, none⟩)) (e15 : ρ 15 = .pointer (some ⟨ga, 0, none⟩)) (e17 : ρ 17 = .pointer (some ⟨gb, 0, none⟩)) :
    @vcI Tryz.prog (tyOf Tryz.prog) n c4_S17 ρ X ⟨finV (tyOf Tryz.prog) [.tmp 12] (fun r H' => r = .bool true ∧ Ext H H')⟩ := by
  have j1 : hget X ga 1 = some (.slice a1 xs.length a2) := by rw [hget_cells C.ka]; rfl
  have lX := C.N.1.size
  simp only [go_sem, ↓reduceIte, Nat.reduceEqDiff, Nat.reduceLeDiff, Nat.reduceAdd, Nat.reduceMul, Nat.reduceSub, Nat.reduceBEq, Nat.reduceGT, Nat.reduceLT, Int.reduceLE, Int.reduceLT, Int.reduceNeg, reduceCtorEq, c4_S17, c4_S18, e3, e4, e5, e14, e15, e17, j1, Int.toNat_natCast]
  refine ⟨by omega, by omega, by omega, by omega, ?_⟩
  have om := V.Own.made (H := X) (B := H.size) (e := 3) (sz := 1) (l := xs.length) (c := xs.length) (z := .int .i64 0) lX (Nat.le_refl _) (by omega)
  rw [Nat.mul_one, zrow_one rfl, List.take_of_length_le (by simp)] at om
  obtain ⟨X2, hX2⟩ : ∃ G, G = X.push (.cells (zrow (.int .i64 0) (xs.length * 1)) 3) := ⟨_, rfl⟩
  rw [Nat.mul_one] at hX2
  have x2 : Ext X X2 := by rw [hX2]; exact Ext.push _
  rw [← hX2] at om ⊢
  have C2 := C.ext x2
  have nF : ∀ g, F g → g < X.size := fun g hg => FsH.lt C.fs hg
  have zl : (zrow (.int .i64 0) xs.length).size = xs.length := zrow_size _ _
  refine LoopI.by mixed (fun ρ X' => ∃ (i : Nat) (deg : List Int), ρ 3 = .int .i64 k ∧ ρ 4 = .int .i64 dir ∧ ρ 5 = cu ∧ ρ 14 = .pointer (some ⟨b, 0, none⟩) ∧ ρ 15 = .pointer (some ⟨ga, 0, none⟩) ∧ ρ 17 = .pointer (some ⟨gb, 0, none⟩) ∧ ρ 20 = .slice (some ⟨X.size, 0, none⟩) xs.length xs.length ∧ ρ 21 = .int .i64 i ∧ i ≤ xs.length ∧
      deg.length = xs.length ∧ (∀ j, j < i → deg.getD j 0 = 16777216) ∧ V.Own X' H.size 3 1 (.slice (some ⟨X.size, 0, none⟩) xs.length xs.length) (deg.map (.int .i64)) ∧ WholeB H X' F b ga gb (.slice a1 xs.length a2) (.slice c1 es.length c2) (.slice b1 ys.length b2) (.slice t1 es.length t2) xs ys es)
    (fun ρ _ => xs.length - (iof (ρ 21)).toNat) ?_ ?_
  · exact ⟨0, List.replicate xs.length 0, by simp only [go_sem, ↓reduceIte, Nat.reduceEqDiff, Nat.reduceLeDiff, Nat.reduceAdd, Nat.reduceMul, Nat.reduceSub, Nat.reduceBEq, Nat.reduceGT, Nat.reduceLT, Int.reduceLE, Int.reduceLT, Int.reduceNeg, reduceCtorEq, e3], by simp only [go_sem, ↓reduceIte, Nat.reduceEqDiff, Nat.reduceLeDiff, Nat.reduceAdd, Nat.reduceMul, Nat.reduceSub, Nat.reduceBEq, Nat.reduceGT, Nat.reduceLT, Int.reduceLE, Int.reduceLT, Int.reduceNeg, reduceCtorEq, e4], by simp only [go_sem, ↓reduceIte, Nat.reduceEqDiff, Nat.reduceLeDiff, Nat.reduceAdd, Nat.reduceMul, Nat.reduceSub, Nat.reduceBEq, Nat.reduceGT, Nat.reduceLT, Int.reduceLE, Int.reduceLT, Int.reduceNeg, reduceCtorEq, e5], by simp only [go_sem, ↓reduceIte, Nat.reduceEqDiff, Nat.reduceLeDiff, Nat.reduceAdd, Nat.reduceMul, Nat.reduceSub, Nat.reduceBEq, Nat.reduceGT, Nat.reduceLT, Int.reduceLE, Int.reduceLT, Int.reduceNeg, reduceCtorEq, e14], by simp only [go_sem, ↓reduceIte, Nat.reduceEqDiff, Nat.reduceLeDiff, Nat.reduceAdd, Nat.reduceMul, Nat.reduceSub, Nat.reduceBEq, Nat.reduceGT, Nat.reduceLT, Int.reduceLE, Int.reduceLT, Int.reduceNeg, reduceCtorEq, e15], by simp only [go_sem, ↓reduceIte, Nat.reduceEqDiff, Nat.reduceLeDiff, Nat.reduceAdd, Nat.reduceMul, Nat.reduceSub, Nat.reduceBEq, Nat.reduceGT, Nat.reduceLT, Int.reduceLE, Int.reduceLT, Int.reduceNeg, reduceCtorEq, e17], by simp only [go_sem, ↓reduceIte, Nat.reduceEqDiff, Nat.reduceLeDiff, Nat.reduceAdd, Nat.reduceMul, Nat.reduceSub, Nat.reduceBEq, Nat.reduceGT, Nat.reduceLT, Int.reduceLE, Int.reduceLT, Int.reduceNeg, reduceCtorEq], by simp only [go_sem, ↓reduceIte, Nat.reduceEqDiff, Nat.reduceLeDiff, Nat.reduceAdd, Nat.reduceMul, Nat.reduceSub, Nat.reduceBEq, Nat.reduceGT, Nat.reduceLT, Int.reduceLE, Int.reduceLT, Int.reduceNeg, reduceCtorEq]; rfl, Nat.zero_le _, by simp, fun j hj => absurd hj (by omega), by rw [List.map_replicate]; exact om, C2⟩
  clear om C2 e3 e4 e5 e14 e15 e17 j1
  rintro ρ X3 ⟨i, deg, e3, e4, e5, e14, e15, e17, e20, e21, hi, hdl, hall, od, C3⟩
  by_cases hlt : i < xs.length
  · have c1' : (i : Int) < xs.length := by omega
    have c0 : (0 : Int) ≤ i := by omega
    obtain ⟨_, r2, r3, r4, r5⟩ := od.store (i := i) hlt (.int .i64 16777216)
    have w3 : IntKind.i64.wrap ((i : Int) + 1) = ((i + 1 : Nat) : Int) := by rw [w64_id (by omega) (by omega)]; omega
    simp only [go_sem, ↓reduceIte, Nat.reduceEqDiff, Nat.reduceLeDiff, Nat.reduceAdd, Nat.reduceMul, Nat.reduceSub, Nat.reduceBEq, Nat.reduceGT, Nat.reduceLT, Int.reduceLE, Int.reduceLT, Int.reduceNeg, reduceCtorEq, c4_L1, e3, e4, e5, e14, e15, e17, e20, e21, c0, c1', r2, w3, Int.toNat_natCast, Nat.zero_add, Nat.mul_one]
    rw [Nat.zero_add] at r2 r3 r4
    rw [← List.map_set] at r3
    have keepX : ∀ g, F g ∨ g = ga ∨ g = gb ∨ blk (.slice a1 xs.length a2) = some g ∨ blk (.slice c1 es.length c2) = some g ∨ blk (.slice b1 ys.length b2) = some g ∨ blk (.slice t1 es.length t2) = some g ∨ g < H.size → g ≠ X.size := by
      rintro g hg rfl
      rcases hg with h | h | h | h | h | h | h | h
      · have := nF _ h; omega
      · have := C.la.2.1; omega
      · have := C.lb.2.1; omega
      · have := (C.oa.own.blk h).2.1; omega
      · have := (C.oc.own.blk h).2.1; omega
      · have := (C.ob.own.blk h).2.1; omega
      · have := (C.obc.own.blk h).2.1; omega
      · omega
    refine ⟨rfl, r2, Hold.mk ⟨i + 1, deg.set i 16777216, by simp only [go_sem, ↓reduceIte, Nat.reduceEqDiff, Nat.reduceLeDiff, Nat.reduceAdd, Nat.reduceMul, Nat.reduceSub, Nat.reduceBEq, Nat.reduceGT, Nat.reduceLT, Int.reduceLE, Int.reduceLT, Int.reduceNeg, reduceCtorEq, e3], by simp only [go_sem, ↓reduceIte, Nat.reduceEqDiff, Nat.reduceLeDiff, Nat.reduceAdd, Nat.reduceMul, Nat.reduceSub, Nat.reduceBEq, Nat.reduceGT, Nat.reduceLT, Int.reduceLE, Int.reduceLT, Int.reduceNeg, reduceCtorEq, e4], by simp only [go_sem, ↓reduceIte, Nat.reduceEqDiff, Nat.reduceLeDiff, Nat.reduceAdd, Nat.reduceMul, Nat.reduceSub, Nat.reduceBEq, Nat.reduceGT, Nat.reduceLT, Int.reduceLE, Int.reduceLT, Int.reduceNeg, reduceCtorEq, e5], by simp only [go_sem, ↓reduceIte, Nat.reduceEqDiff, Nat.reduceLeDiff, Nat.reduceAdd, Nat.reduceMul, Nat.reduceSub, Nat.reduceBEq, Nat.reduceGT, Nat.reduceLT, Int.reduceLE, Int.reduceLT, Int.reduceNeg, reduceCtorEq, e14], by simp only [go_sem, ↓reduceIte, Nat.reduceEqDiff, Nat.reduceLeDiff, Nat.reduceAdd, Nat.reduceMul, Nat.reduceSub, Nat.reduceBEq, Nat.reduceGT, Nat.reduceLT, Int.reduceLE, Int.reduceLT, Int.reduceNeg, reduceCtorEq, e15], by simp only [go_sem, ↓reduceIte, Nat.reduceEqDiff, Nat.reduceLeDiff, Nat.reduceAdd, Nat.reduceMul, Nat.reduceSub, Nat.reduceBEq, Nat.reduceGT, Nat.reduceLT, Int.reduceLE, Int.reduceLT, Int.reduceNeg, reduceCtorEq, e17], by simp only [go_sem, ↓reduceIte, Nat.reduceEqDiff, Nat.reduceLeDiff, Nat.reduceAdd, Nat.reduceMul, Nat.reduceSub, Nat.reduceBEq, Nat.reduceGT, Nat.reduceLT, Int.reduceLE, Int.reduceLT, Int.reduceNeg, reduceCtorEq, e20], by simp only [go_sem, ↓reduceIte, Nat.reduceEqDiff, Nat.reduceLeDiff, Nat.reduceAdd, Nat.reduceMul, Nat.reduceSub, Nat.reduceBEq, Nat.reduceGT, Nat.reduceLT, Int.reduceLE, Int.reduceLT, Int.reduceNeg, reduceCtorEq], by omega, by simp [hdl], fun j hj => ?_, r3, C3.keep (by rw [hput_size]; exact Nat.le_refl _) fun g hg h => hput_other _ _ _ _ (keepX g h)⟩, by omega⟩
    rw [List.getD_eq_getElem?_getD, List.getElem?_set]
    by_cases hij : i = j
    · subst hij
      rw [if_pos rfl, if_pos (by omega)]; rfl
    · rw [if_neg hij, ← List.getD_eq_getElem?_getD]; exact hall j (by omega)
  · have c1' : ¬ (i : Int) < xs.length := by omega
    have hie : i = xs.length := by omega
    subst hie
    simp only [go_sem, ↓reduceIte, Nat.reduceEqDiff, Nat.reduceLeDiff, Nat.reduceAdd, Nat.reduceMul, Nat.reduceSub, Nat.reduceBEq, Nat.reduceGT, Nat.reduceLT, Int.reduceLE, Int.reduceLT, Int.reduceNeg, reduceCtorEq, c4_L1, e3, e4, e5, e14, e15, e17, e20, e21, c1']
    have CC : WholeC H X3 F b ga gb (freshS 1048576) (.slice a1 xs.length a2) (.slice c1 es.length c2) (.slice b1 ys.length b2) (.slice t1 es.length t2) (.slice (some ⟨X.size, 0, none⟩) deg.length xs.length) xs ys deg es := ⟨C3.N, C3.fs, C3.la.2, C3.lb.2, C3.ka, C3.kb, C3.oa, C3.oc, C3.ob, C3.obc, by rw [hdl]; exact ⟨od, fun g hg e => by
      have := nF _ e
      have : X.size = g := by simpa [blk] using hg
      omega⟩⟩
    exact F4_26 (k := k) (dir := dir) CC ⟨ma, mb, hdl.symm, by omega, by omega, le, fun j hj => hall j (by omega)⟩ ht tab hcu hcl (by simp only [go_sem, ↓reduceIte, Nat.reduceEqDiff, Nat.reduceLeDiff, Nat.reduceAdd, Nat.reduceMul, Nat.reduceSub, Nat.reduceBEq, Nat.reduceGT, Nat.reduceLT, Int.reduceLE, Int.reduceLT, Int.reduceNeg, reduceCtorEq, e3]) (by simp only [go_sem, ↓reduceIte, Nat.reduceEqDiff, Nat.reduceLeDiff, Nat.reduceAdd, Nat.reduceMul, Nat.reduceSub, Nat.reduceBEq, Nat.reduceGT, Nat.reduceLT, Int.reduceLE, Int.reduceLT, Int.reduceNeg, reduceCtorEq, e4]) (by simp only [go_sem, ↓reduceIte, Nat.reduceEqDiff, Nat.reduceLeDiff, Nat.reduceAdd, Nat.reduceMul, Nat.reduceSub, Nat.reduceBEq, Nat.reduceGT, Nat.reduceLT, Int.reduceLE, Int.reduceLT, Int.reduceNeg, reduceCtorEq, e5]) (by simp only [go_sem, ↓reduceIte, Nat.reduceEqDiff, Nat.reduceLeDiff, Nat.reduceAdd, Nat.reduceMul, Nat.reduceSub, Nat.reduceBEq, Nat.reduceGT, Nat.reduceLT, Int.reduceLE, Int.reduceLT, Int.reduceNeg, reduceCtorEq, e14]) (by simp only [go_sem, ↓reduceIte, Nat.reduceEqDiff, Nat.reduceLeDiff, Nat.reduceAdd, Nat.reduceMul, Nat.reduceSub, Nat.reduceBEq, Nat.reduceGT, Nat.reduceLT, Int.reduceLE, Int.reduceLT, Int.reduceNeg, reduceCtorEq, e15]) (by simp only [go_sem, ↓reduceIte, Nat.reduceEqDiff, Nat.reduceLeDiff, Nat.reduceAdd, Nat.reduceMul, Nat.reduceSub, Nat.reduceBEq, Nat.reduceGT, Nat.reduceLT, Int.reduceLE, Int.reduceLT, Int.reduceNeg, reduceCtorEq, e17]) (by simp only [go_sem, ↓reduceIte, Nat.reduceEqDiff, Nat.reduceLeDiff, Nat.reduceAdd, Nat.reduceMul, Nat.reduceSub, Nat.reduceBEq, Nat.reduceGT, Nat.reduceLT, Int.reduceLE, Int.reduceLT, Int.reduceNeg, reduceCtorEq, e20, hdl])
/-- The second checkpoint's numbers. -/
theorem F4_9 {a2 c2 b2 t2 v2 : Nat} {a1 c1 b1 t1 v1 : Option Addr} {cu : Value} {cuts other : List Int} {dir k : Int}
    (C : WholeB H X F b ga gb (.slice a1 xs.length a2) (.slice c1 es.length c2) (.slice b1 xs.length b2) (.slice t1 es.length t2) xs xs es) (ma : mayC 1 0 xs es = true) (ll : xs.length ≤ 5000) (le : es.length ≤ 1000) (ht : CrcTab H) (tab : Tab H)
    (hv : Ints H 3 .i64 (.slice v1 other.length v2) other) (hcu : Ints H 3 .i64 cu cuts) (hcl : cuts.length ≤ 17592186043904)
    (e1 : ρ 1 = .slice v1 other.length v2) (e3 : ρ 3 = .int .i64 k) (e4 : ρ 4 = .int .i64 dir) (e5 : ρ 5 = cu) (e14 : ρ 14 = .pointer (some ⟨b, 0, none⟩)) (e15 : ρ 15 = .pointer (some ⟨ga, 0, none⟩)) (e17 : ρ 17 = .pointer (some ⟨gb, 0, none⟩)) :
    @vcI Tryz.prog (tyOf Tryz.prog) n c4_S9 ρ X ⟨finV (tyOf Tryz.prog) [.tmp 12] (fun r H' => r = .bool true ∧ Ext H H')⟩ := by
  obtain ⟨m1, m2, m3, m4, m5, m6, m7⟩ := mayC_iff.1 ma
  simp only [go_sem, ↓reduceIte, Nat.reduceEqDiff, Nat.reduceLeDiff, Nat.reduceAdd, Nat.reduceMul, Nat.reduceSub, Nat.reduceBEq, Nat.reduceGT, Nat.reduceLT, Int.reduceLE, Int.reduceLT, Int.reduceNeg, reduceCtorEq, c4_S9, e1, e3, e4, e5, e14, e15, e17]
  refine LoopI.by mixed (fun ρ X' => ∃ (i : Nat) (ys : List Int), ρ 1 = .slice v1 other.length v2 ∧ ρ 3 = .int .i64 k ∧ ρ 4 = .int .i64 dir ∧ ρ 5 = cu ∧ ρ 14 = .pointer (some ⟨b, 0, none⟩) ∧ ρ 15 = .pointer (some ⟨ga, 0, none⟩) ∧ ρ 17 = .pointer (some ⟨gb, 0, none⟩) ∧ ρ 19 = .int .i64 i ∧ i ≤ xs.length ∧
      ys.length = xs.length ∧ (∀ x ∈ ys, 0 ≤ x ∧ x < 16777216) ∧ WholeB H X' F b ga gb (.slice a1 xs.length a2) (.slice c1 es.length c2) (.slice b1 ys.length b2) (.slice t1 es.length t2) xs ys es)
    (fun ρ _ => xs.length - (iof (ρ 19)).toNat) ?_ ?_
  · exact ⟨0, xs, by simp only [go_sem, ↓reduceIte, Nat.reduceEqDiff, Nat.reduceLeDiff, Nat.reduceAdd, Nat.reduceMul, Nat.reduceSub, Nat.reduceBEq, Nat.reduceGT, Nat.reduceLT, Int.reduceLE, Int.reduceLT, Int.reduceNeg, reduceCtorEq, e1], by simp only [go_sem, ↓reduceIte, Nat.reduceEqDiff, Nat.reduceLeDiff, Nat.reduceAdd, Nat.reduceMul, Nat.reduceSub, Nat.reduceBEq, Nat.reduceGT, Nat.reduceLT, Int.reduceLE, Int.reduceLT, Int.reduceNeg, reduceCtorEq, e3], by simp only [go_sem, ↓reduceIte, Nat.reduceEqDiff, Nat.reduceLeDiff, Nat.reduceAdd, Nat.reduceMul, Nat.reduceSub, Nat.reduceBEq, Nat.reduceGT, Nat.reduceLT, Int.reduceLE, Int.reduceLT, Int.reduceNeg, reduceCtorEq, e4], by simp only [go_sem, ↓reduceIte, Nat.reduceEqDiff, Nat.reduceLeDiff, Nat.reduceAdd, Nat.reduceMul, Nat.reduceSub, Nat.reduceBEq, Nat.reduceGT, Nat.reduceLT, Int.reduceLE, Int.reduceLT, Int.reduceNeg, reduceCtorEq, e5], by simp only [go_sem, ↓reduceIte, Nat.reduceEqDiff, Nat.reduceLeDiff, Nat.reduceAdd, Nat.reduceMul, Nat.reduceSub, Nat.reduceBEq, Nat.reduceGT, Nat.reduceLT, Int.reduceLE, Int.reduceLT, Int.reduceNeg, reduceCtorEq, e14], by simp only [go_sem, ↓reduceIte, Nat.reduceEqDiff, Nat.reduceLeDiff, Nat.reduceAdd, Nat.reduceMul, Nat.reduceSub, Nat.reduceBEq, Nat.reduceGT, Nat.reduceLT, Int.reduceLE, Int.reduceLT, Int.reduceNeg, reduceCtorEq, e15], by simp only [go_sem, ↓reduceIte, Nat.reduceEqDiff, Nat.reduceLeDiff, Nat.reduceAdd, Nat.reduceMul, Nat.reduceSub, Nat.reduceBEq, Nat.reduceGT, Nat.reduceLT, Int.reduceLE, Int.reduceLT, Int.reduceNeg, reduceCtorEq, e17], by simp only [go_sem, ↓reduceIte, Nat.reduceEqDiff, Nat.reduceLeDiff, Nat.reduceAdd, Nat.reduceMul, Nat.reduceSub, Nat.reduceBEq, Nat.reduceGT, Nat.reduceLT, Int.reduceLE, Int.reduceLT, Int.reduceNeg, reduceCtorEq]; rfl, Nat.zero_le _, rfl, m7, C⟩
  clear C e1 e3 e4 e5 e14 e15 e17
  rintro ρ X3 ⟨i, ys, e1, e3, e4, e5, e14, e15, e17, e19, hi, hyl, hall, C⟩
  have i1 : hget X3 gb 1 = some (.slice b1 ys.length b2) := by rw [hget_cells C.kb]; rfl
  by_cases hlt : i < ys.length ∧ i < other.length
  · have c1' : (i : Int) < ys.length := by omega
    have c2' : (i : Int) < other.length := by omega
    have c0 : (0 : Int) ≤ i := by omega
    obtain ⟨bb, bo, rfl⟩ := Ints.at (xs := ys) (k := .i64) C.ob.own.sl (i := i) hlt.1
    obtain ⟨vb, vo, rfl⟩ := hv.at hlt.2
    have g1 := (hv.ext C.N.1).get hlt.2
    have r7 : 0 ≤ ibits .and .i64 (other.getD i 0) 255 ∧ ibits .and .i64 (other.getD i 0) 255 ≤ 255 := and_le (other.getD i 0) 255 (by omega)
    obtain ⟨z, hz⟩ : ∃ z, z = ibits .and .i64 (other.getD i 0) 255 := ⟨_, rfl⟩
    obtain ⟨r1, r2, r3, r4, r5⟩ := C.ob.own.store (i := i) hlt.1 (.int .i64 z)
    have w3 : IntKind.i64.wrap ((i : Int) + 1) = ((i + 1 : Nat) : Int) := by rw [w64_id (by omega) (by omega)]; omega
    simp only [go_sem, ↓reduceIte, Nat.reduceEqDiff, Nat.reduceLeDiff, Nat.reduceAdd, Nat.reduceMul, Nat.reduceSub, Nat.reduceBEq, Nat.reduceGT, Nat.reduceLT, Int.reduceLE, Int.reduceLT, Int.reduceNeg, reduceCtorEq, c4_L0, e1, e3, e4, e5, e14, e15, e17, e19, i1, c0, c1', c2', g1, ← hz, r2, w3, Int.toNat_natCast]
    rw [← List.map_set] at r3
    have nbb := C.ob.own.blk (g := bb) rfl
    have keepX : ∀ g, F g ∨ g = ga ∨ g = gb ∨ blk (.slice a1 xs.length a2) = some g ∨ blk (.slice c1 es.length c2) = some g ∨ blk (.slice t1 es.length t2) = some g ∨ g < H.size → g ≠ bb := by
      rintro g hg rfl
      obtain ⟨q1, q2, cc, q3⟩ := nbb
      rcases hg with h | rfl | rfl | h | h | h | h
      · exact C.ob.aw g rfl h
      · exact tag_ne C.ka q3 (by decide) rfl
      · exact tag_ne C.kb q3 (by decide) rfl
      · rcases C.ap with e | e
        · rw [h] at e; cases e
        · exact e (h.trans rfl)
      · obtain ⟨_, _, cc', q4⟩ := C.oc.own.blk h
        exact tag_ne q4 q3 (by decide) rfl
      · obtain ⟨_, _, cc', q4⟩ := C.obc.own.blk h
        exact tag_ne q4 q3 (by decide) rfl
      · omega
    have kp : ∀ g, F g ∨ g = ga ∨ g = gb ∨ blk (.slice a1 xs.length a2) = some g ∨ blk (.slice c1 es.length c2) = some g ∨ blk (.slice t1 es.length t2) = some g ∨ g < H.size → (hput X3 bb (bo + i) [.int .i64 z])[g]? = X3[g]? := fun g hg => hput_other _ _ _ _ (keepX g hg)
    have sz : X3.size ≤ (hput X3 bb (bo + i) [.int .i64 z]).size := by rw [hput_size]; exact Nat.le_refl _
    have C3 : WholeB H (hput X3 bb (bo + i) [.int .i64 z]) F b ga gb (.slice a1 xs.length a2) (.slice c1 es.length c2) (.slice (some ⟨bb, bo, none⟩) ys.length b2) (.slice t1 es.length t2) xs (ys.set i z) es := by
      refine ⟨⟨⟨Nat.le_trans C.N.1.size sz, fun g hg => ?_⟩, C.N.2⟩, ?_, ⟨C.la.1, Nat.lt_of_lt_of_le C.la.2.1 sz, C.la.2.2⟩, ⟨C.lb.1, Nat.lt_of_lt_of_le C.lb.2.1 sz, C.lb.2.2⟩, ?_, ?_, ?_, ?_, ⟨r3, C.ob.aw⟩, ?_, C.ap⟩
      · rw [kp g (by simp [hg])]; exact C.N.1.get g hg
      · obtain ⟨_, _, _, _, _, p⟩ := C.fs
        exact ⟨_, _, _, _, _, p.keep sz fun g hg => kp g (.inl hg)⟩
      · rw [kp _ (by simp)]; exact C.ka
      · rw [kp _ (by simp)]; exact C.kb
      · exact ⟨C.oa.own.keep fun g hg => kp g (by simp [hg]), C.oa.aw⟩
      · exact ⟨C.oc.own.keep fun g hg => kp g (by simp [hg]), C.oc.aw⟩
      · exact ⟨C.obc.own.keep fun g hg => kp g (by simp [hg]), C.obc.aw⟩
    refine ⟨rfl, Hold.mk ⟨i + 1, ys.set i z, by simp only [go_sem, ↓reduceIte, Nat.reduceEqDiff, Nat.reduceLeDiff, Nat.reduceAdd, Nat.reduceMul, Nat.reduceSub, Nat.reduceBEq, Nat.reduceGT, Nat.reduceLT, Int.reduceLE, Int.reduceLT, Int.reduceNeg, reduceCtorEq, e1], by simp only [go_sem, ↓reduceIte, Nat.reduceEqDiff, Nat.reduceLeDiff, Nat.reduceAdd, Nat.reduceMul, Nat.reduceSub, Nat.reduceBEq, Nat.reduceGT, Nat.reduceLT, Int.reduceLE, Int.reduceLT, Int.reduceNeg, reduceCtorEq, e3], by simp only [go_sem, ↓reduceIte, Nat.reduceEqDiff, Nat.reduceLeDiff, Nat.reduceAdd, Nat.reduceMul, Nat.reduceSub, Nat.reduceBEq, Nat.reduceGT, Nat.reduceLT, Int.reduceLE, Int.reduceLT, Int.reduceNeg, reduceCtorEq, e4], by simp only [go_sem, ↓reduceIte, Nat.reduceEqDiff, Nat.reduceLeDiff, Nat.reduceAdd, Nat.reduceMul, Nat.reduceSub, Nat.reduceBEq, Nat.reduceGT, Nat.reduceLT, Int.reduceLE, Int.reduceLT, Int.reduceNeg, reduceCtorEq, e5], by simp only [go_sem, ↓reduceIte, Nat.reduceEqDiff, Nat.reduceLeDiff, Nat.reduceAdd, Nat.reduceMul, Nat.reduceSub, Nat.reduceBEq, Nat.reduceGT, Nat.reduceLT, Int.reduceLE, Int.reduceLT, Int.reduceNeg, reduceCtorEq, e14], by simp only [go_sem, ↓reduceIte, Nat.reduceEqDiff, Nat.reduceLeDiff, Nat.reduceAdd, Nat.reduceMul, Nat.reduceSub, Nat.reduceBEq, Nat.reduceGT, Nat.reduceLT, Int.reduceLE, Int.reduceLT, Int.reduceNeg, reduceCtorEq, e15], by simp only [go_sem, ↓reduceIte, Nat.reduceEqDiff, Nat.reduceLeDiff, Nat.reduceAdd, Nat.reduceMul, Nat.reduceSub, Nat.reduceBEq, Nat.reduceGT, Nat.reduceLT, Int.reduceLE, Int.reduceLT, Int.reduceNeg, reduceCtorEq, e17], by simp only [go_sem, ↓reduceIte, Nat.reduceEqDiff, Nat.reduceLeDiff, Nat.reduceAdd, Nat.reduceMul, Nat.reduceSub, Nat.reduceBEq, Nat.reduceGT, Nat.reduceLT, Int.reduceLE, Int.reduceLT, Int.reduceNeg, reduceCtorEq], by omega, by simp [hyl], fun x hx => ?_, by rw [List.length_set]; exact C3⟩, by omega⟩
    rcases List.mem_or_eq_of_mem_set hx with h | rfl
    · exact hall x h
    · omega
  · have hmb : mayC 1 9 ys es = true := mayC_iff.2 ⟨by omega, by omega, by omega, by omega, by omega, by omega, hall⟩
    have C' : WholeB H X3 F b ga gb (.slice a1 xs.length a2) (.slice c1 es.length c2) (.slice b1 ys.length b2) (.slice t1 es.length t2) xs ys es := C
    rcases (by omega : ¬ ((i : Int) < ys.length) ∨ ((i : Int) < ys.length ∧ ¬ ((i : Int) < other.length))) with d1 | ⟨d1, d2⟩
    case' inl => simp only [go_sem, ↓reduceIte, Nat.reduceEqDiff, Nat.reduceLeDiff, Nat.reduceAdd, Nat.reduceMul, Nat.reduceSub, Nat.reduceBEq, Nat.reduceGT, Nat.reduceLT, Int.reduceLE, Int.reduceLT, Int.reduceNeg, reduceCtorEq, c4_L0, e1, e3, e4, e5, e14, e15, e17, e19, i1, d1]
    case' inr => simp only [go_sem, ↓reduceIte, Nat.reduceEqDiff, Nat.reduceLeDiff, Nat.reduceAdd, Nat.reduceMul, Nat.reduceSub, Nat.reduceBEq, Nat.reduceGT, Nat.reduceLT, Int.reduceLE, Int.reduceLT, Int.reduceNeg, reduceCtorEq, c4_L0, e1, e3, e4, e5, e14, e15, e17, e19, i1, d1, d2]
    all_goals exact F4_17 (k := k) (dir := dir) C' ma hmb ll hyl le ht tab hcu hcl (by simp only [go_sem, ↓reduceIte, Nat.reduceEqDiff, Nat.reduceLeDiff, Nat.reduceAdd, Nat.reduceMul, Nat.reduceSub, Nat.reduceBEq, Nat.reduceGT, Nat.reduceLT, Int.reduceLE, Int.reduceLT, Int.reduceNeg, reduceCtorEq, e3]) (by simp only [go_sem, ↓reduceIte, Nat.reduceEqDiff, Nat.reduceLeDiff, Nat.reduceAdd, Nat.reduceMul, Nat.reduceSub, Nat.reduceBEq, Nat.reduceGT, Nat.reduceLT, Int.reduceLE, Int.reduceLT, Int.reduceNeg, reduceCtorEq, e4]) (by simp only [go_sem, ↓reduceIte, Nat.reduceEqDiff, Nat.reduceLeDiff, Nat.reduceAdd, Nat.reduceMul, Nat.reduceSub, Nat.reduceBEq, Nat.reduceGT, Nat.reduceLT, Int.reduceLE, Int.reduceLT, Int.reduceNeg, reduceCtorEq, e5]) (by simp only [go_sem, ↓reduceIte, Nat.reduceEqDiff, Nat.reduceLeDiff, Nat.reduceAdd, Nat.reduceMul, Nat.reduceSub, Nat.reduceBEq, Nat.reduceGT, Nat.reduceLT, Int.reduceLE, Int.reduceLT, Int.reduceNeg, reduceCtorEq, e14]) (by simp only [go_sem, ↓reduceIte, Nat.reduceEqDiff, Nat.reduceLeDiff, Nat.reduceAdd, Nat.reduceMul, Nat.reduceSub, Nat.reduceBEq, Nat.reduceGT, Nat.reduceLT, Int.reduceLE, Int.reduceLT, Int.reduceNeg, reduceCtorEq, e15]) (by simp only [go_sem, ↓reduceIte, Nat.reduceEqDiff, Nat.reduceLeDiff, Nat.reduceAdd, Nat.reduceMul, Nat.reduceSub, Nat.reduceBEq, Nat.reduceGT, Nat.reduceLT, Int.reduceLE, Int.reduceLT, Int.reduceNeg, reduceCtorEq, e17])
end
set_option maxHeartbeats 6400000 in
theorem F4 (u : Value) (est : List Int) (v : Value) (other : List Int) (w : Value) (ds : List Bool) (k dir : Int) (cu : Value) (cuts : List Int) (H : Heap) (hu : Ints H 3 .i64 u est) (hv : Ints H 3 .i64 v other) (hw : Bls H 4 w ds) (hk : -9223372036854775808 ≤ k ∧ k < 9223372036854775808) (hdir : -9223372036854775808 ≤ dir ∧ dir < 9223372036854775808) (hcu : Ints H 3 .i64 cu cuts) (ht : CrcTab H) (tab : Tab H) (_ : est.length ≤ 17592186043904) (_ : other.length ≤ 17592186043904) (hcl : cuts.length ≤ 17592186043904) :
    Fun Tryz.prog 4 #[u, v, w, .int .i64 k, .int .i64 dir, cu] H (fun r H' => r = .bool true ∧ Ext H H') := by
  obtain ⟨u1, u2, rfl⟩ := hu.form
  obtain ⟨v1, v2, rfl⟩ := hv.form
  obtain ⟨w1, w2, rfl⟩ := hw.form
  obtain ⟨y1, y2, rfl⟩ := hcu.form
  refine fun_of mixed (args := [_, _, _, _, _, _]) Tryz.func4 Tryz.ntmps4 b4 r4 rfl ?_
  rw [c4_ch]
  simp only [go_sem, ↓reduceIte, Nat.reduceEqDiff, Nat.reduceLeDiff, Nat.reduceAdd, Nat.reduceMul, Nat.reduceSub, Nat.reduceBEq, Nat.reduceGT, Nat.reduceLT, Int.reduceLE, Int.reduceLT, Int.reduceNeg, reduceCtorEq, c4_S0, c4_S1, c4_S2, c4_S3, c4_S6, c4_S7, c4_S8]
  refine FunI.by (F6 H tab) ?_
  rintro _ H1 ⟨rfl, x1⟩
  simp only [go_sem, ↓reduceIte, Nat.reduceEqDiff, Nat.reduceLeDiff, Nat.reduceAdd, Nat.reduceMul, Nat.reduceSub, Nat.reduceBEq, Nat.reduceGT, Nat.reduceLT, Int.reduceLE, Int.reduceLT, Int.reduceNeg, reduceCtorEq, c4_S0, c4_S1, c4_S2, c4_S3, c4_S6, c4_S7, c4_S8]
  refine FunI.by (F7 1048576 H1 trivial) ?_
  rintro _ H2 ⟨x2, h⟩
  rw [if_neg (by omega)] at h
  obtain ⟨b, F, rfl, h2, n2⟩ := h
  have x12 : Ext H H2 := Upto.ext x1 x1.size x2
  have hs1 := x1.size
  have hs2 := x12.size
  have nF : ∀ g, F g → H.size ≤ g := fun g hg => Nat.le_trans hs1 (n2 g hg)
  have lF : ∀ g, F g → g < H2.size := fun g hg => FsH.lt h2 hg
  obtain ⟨more, hmore⟩ : ∃ m : List Int, m = [] := ⟨_, rfl⟩
  have hml : more.length = 0 := by rw [hmore]; rfl
  simp only [go_sem, ↓reduceIte, Nat.reduceEqDiff, Nat.reduceLeDiff, Nat.reduceAdd, Nat.reduceMul, Nat.reduceSub, Nat.reduceBEq, Nat.reduceGT, Nat.reduceLT, Int.reduceLE, Int.reduceLT, Int.reduceNeg, reduceCtorEq, c4_S0, c4_S1, c4_S2, c4_S3, c4_S6, c4_S7, c4_S8, ptrOf]
  refine FunI.by (F8 _ _ _ est more ds H2 (hu.ext x12) (hw.ext x12) (by rw [hmore]; exact Ints.nil)) ?_
  rintro _ H3 ⟨a, c, d, rfl, oa, oc, od, had, x3⟩
  have hs3 := x3.size
  have n5 := fitN_le est
  have eL := estN_len est (fitN est)
  obtain ⟨xs, hxs⟩ : ∃ z, z = estN est (fitN est) := ⟨_, rfl⟩
  obtain ⟨es, hes⟩ : ∃ z, z = ds.take 1000 := ⟨_, rfl⟩
  have hle : es.length ≤ 1000 := by rw [hes]; simp; omega
  have hma : mayC 1 0 xs es = true := by rw [hxs, hes]; exact fit_may est ds (by omega) (by omega)
  rw [← hxs] at oa eL
  rw [← hes] at oc
  obtain ⟨a1, a2, rfl⟩ := Ints.form (xs := xs) (k := .i64) oa.sl
  obtain ⟨c1, c2, rfl⟩ := Bls.form (bs := es) oc.sl
  simp only [go_sem, ↓reduceIte, Nat.reduceEqDiff, Nat.reduceLeDiff, Nat.reduceAdd, Nat.reduceMul, Nat.reduceSub, Nat.reduceBEq, Nat.reduceGT, Nat.reduceLT, Int.reduceLE, Int.reduceLT, Int.reduceNeg, reduceCtorEq, c4_S0, c4_S1, c4_S2, c4_S3, c4_S6, c4_S7, c4_S8, ptrOf, hput_push3, hcan_push, List.all_cons, List.all_nil, Value.oneCell', hml]
  obtain ⟨H4, hH4⟩ : ∃ H4, H4 = H3.push (.cells #[.int .i64 ((0 : Nat) : Int), .slice a1 xs.length a2, .slice c1 es.length c2] 28) := ⟨_, rfl⟩
  have x4 : Ext H3 H4 := by rw [hH4]; exact Ext.push _
  have k4 : H4[H3.size]? = some (.cells #[.int .i64 0, .slice a1 xs.length a2, .slice c1 es.length c2] 28) := by rw [hH4]; exact push_new
  have s4 : H4.size = H3.size + 1 := by rw [hH4]; simp
  rw [← hH4]
  have x24 : Ext H2 H4 := x3.trans (x4.mono x3.size)
  have x04 : Ext H H4 := x12.trans (x24.mono hs2)
  refine FunI.by (F8 _ _ _ est more ds H4 (hu.ext x04) (hw.ext x04) (by rw [hmore]; exact Ints.nil)) ?_
  rintro _ H5 ⟨a', c', d', rfl, oa', oc', od', had', x5⟩
  have hs5 := x5.size
  rw [← hxs] at oa'
  rw [← hes] at oc'
  obtain ⟨b1, b2, rfl⟩ := Ints.form (xs := xs) (k := .i64) oa'.sl
  obtain ⟨t1, t2, rfl⟩ := Bls.form (bs := es) oc'.sl
  simp only [go_sem, ↓reduceIte, Nat.reduceEqDiff, Nat.reduceLeDiff, Nat.reduceAdd, Nat.reduceMul, Nat.reduceSub, Nat.reduceBEq, Nat.reduceGT, Nat.reduceLT, Int.reduceLE, Int.reduceLT, Int.reduceNeg, reduceCtorEq, c4_S0, c4_S1, c4_S2, c4_S3, c4_S6, c4_S7, ptrOf, hput_push3, hcan_push, List.all_cons, List.all_nil, Value.oneCell', hml]
  obtain ⟨H6, hH6⟩ : ∃ G, G = H5.push (.cells #[.int .i64 ((0 : Nat) : Int), .slice b1 xs.length b2, .slice t1 es.length t2] 28) := ⟨_, rfl⟩
  have x6 : Ext H5 H6 := by rw [hH6]; exact Ext.push _
  have k6 : H6[H5.size]? = some (.cells #[.int .i64 0, .slice b1 xs.length b2, .slice t1 es.length t2] 28) := by rw [hH6]; exact push_new
  rw [← hH6]
  obtain ⟨H7, hH7⟩ : ∃ G, G = hput H6 H5.size 0 [.int .i64 9] := ⟨_, rfl⟩
  have k7 : H7[H5.size]? = some (.cells #[.int .i64 9, .slice b1 xs.length b2, .slice t1 es.length t2] 28) := by rw [hH7]; exact hput_same k6
  have x57 : Ext H5 H7 := by rw [hH7]; exact x6.hput (Nat.le_refl _)
  rw [← hH7]
  have x47 : Ext H4 H7 := x5.trans (x57.mono x5.size)
  have x37 : Ext H3 H7 := x4.trans (x47.mono x4.size)
  have x27 : Ext H2 H7 := x3.trans (x37.mono x3.size)
  have l7 := (Array.getElem?_eq_some_iff.1 k7).1
  have nF2 : ∀ g, H2.size ≤ g → ¬ F g := fun g hg e => by have := lF g e; omega
  have mA : ∀ {G : Heap} {B : Nat} {e : TypeId} {v : Value} {vs : List Value}, V.Own G B e 1 v vs → H2.size ≤ B → Ext G H7 → OwnA H7 F H.size e v vs := fun h hB x => ⟨(h.ext x).mono (by omega), fun g hg => nF2 g (by have := (h.blk hg).1; omega)⟩
  have CB : WholeB H H7 F b H3.size H5.size (.slice a1 xs.length a2) (.slice c1 es.length c2) (.slice b1 xs.length b2) (.slice t1 es.length t2) xs xs es := ⟨⟨x12.trans (x27.mono hs2), nF⟩, h2.ext x27, ⟨by omega, by omega, nF2 _ (by omega)⟩, ⟨by omega, l7, nF2 _ (by omega)⟩, (x47.get _ (by omega)).trans k4, k7, mA oa (Nat.le_refl _) x37, mA oc (Nat.le_refl _) x37, mA oa' (by omega) x57, mA oc' (by omega) x57, by
    rcases ho : blk (.slice a1 xs.length a2) with _ | g
    · exact .inl ho
    · refine .inr fun e => ?_
      rw [ho] at e
      have p1 := (oa.blk ho).2.1
      have p2 := (oa'.blk e.symm).1
      omega⟩
  exact F4_9 (k := k) (dir := dir) CB hma (by omega) hle ht tab hv hcu hcl (by simp only [go_sem, ↓reduceIte, Nat.reduceEqDiff, Nat.reduceLeDiff, Nat.reduceAdd, Nat.reduceMul, Nat.reduceSub, Nat.reduceBEq, Nat.reduceGT, Nat.reduceLT, Int.reduceLE, Int.reduceLT, Int.reduceNeg, reduceCtorEq]) (by simp only [go_sem, ↓reduceIte, Nat.reduceEqDiff, Nat.reduceLeDiff, Nat.reduceAdd, Nat.reduceMul, Nat.reduceSub, Nat.reduceBEq, Nat.reduceGT, Nat.reduceLT, Int.reduceLE, Int.reduceLT, Int.reduceNeg, reduceCtorEq]) (by simp only [go_sem, ↓reduceIte, Nat.reduceEqDiff, Nat.reduceLeDiff, Nat.reduceAdd, Nat.reduceMul, Nat.reduceSub, Nat.reduceBEq, Nat.reduceGT, Nat.reduceLT, Int.reduceLE, Int.reduceLT, Int.reduceNeg, reduceCtorEq]) (by simp only [go_sem, ↓reduceIte, Nat.reduceEqDiff, Nat.reduceLeDiff, Nat.reduceAdd, Nat.reduceMul, Nat.reduceSub, Nat.reduceBEq, Nat.reduceGT, Nat.reduceLT, Int.reduceLE, Int.reduceLT, Int.reduceNeg, reduceCtorEq]) (by simp only [go_sem, ↓reduceIte, Nat.reduceEqDiff, Nat.reduceLeDiff, Nat.reduceAdd, Nat.reduceMul, Nat.reduceSub, Nat.reduceBEq, Nat.reduceGT, Nat.reduceLT, Int.reduceLE, Int.reduceLT, Int.reduceNeg, reduceCtorEq]) (by simp only [go_sem, ↓reduceIte, Nat.reduceEqDiff, Nat.reduceLeDiff, Nat.reduceAdd, Nat.reduceMul, Nat.reduceSub, Nat.reduceBEq, Nat.reduceGT, Nat.reduceLT, Int.reduceLE, Int.reduceLT, Int.reduceNeg, reduceCtorEq]) (by simp only [go_sem, ↓reduceIte, Nat.reduceEqDiff, Nat.reduceLeDiff, Nat.reduceAdd, Nat.reduceMul, Nat.reduceSub, Nat.reduceBEq, Nat.reduceGT, Nat.reduceLT, Int.reduceLE, Int.reduceLT, Int.reduceNeg, reduceCtorEq])
end Go.Proofs.YtgigigchjnnonaaGreatDoor
