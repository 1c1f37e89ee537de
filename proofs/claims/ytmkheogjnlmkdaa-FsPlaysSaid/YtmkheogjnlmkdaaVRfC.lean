/- The reference's file system in memory; its small functions. -/
import Derived.Test.YtmkheogjnlmkdaaVRfB
set_option linter.unusedSimpArgs false
set_option linter.unusedVariables false
set_option maxRecDepth 20000
namespace Go.V
open Go
abbrev Dt := List Int × Nat
def datC (P : List (Value × Dt)) : List Value := P.flatMap fun p => [p.1, .int .i64 p.2.2]
theorem datC_len (P : List (Value × Dt)) : (datC P).length = P.length * 2 := fl_len (f := fun p : Value × Dt => [p.1, Value.int .i64 p.2.2]) (fun _ => rfl) P
theorem datC_snoc (P : List (Value × Dt)) (u : Value) (d : Dt) : datC (P ++ [(u, d)]) = datC P ++ [u, .int .i64 d.2] := by simp [datC]
def rC (r : RSt) (fv dv pv : Value) : Array Value := #[.int .i64 r.most, fv, dv, pv, .bool r.off, .int .i64 r.armed, .int .i64 r.count]
def armR (r : RSt) (k : Int) : RSt × Int := if k < 0 then (r, 85) else if r.off then (r, 81) else ({ r with armed := k }, 0)
end Go.V
namespace Go.Proofs.Ytmkheogjnlmkdaa
open Go Go.V
-- 87: (*pith/pithref8.FS).now
-- 91: (*pith/pithref8.FS).begins
-- 96: pith/pithref8.named
-- 95: (*pith/pithref8.FS).fails
-- 94: (*pith/pithref8.FS).power
-- 62: (*pith/pithref8.FS).Power
-- 61: (*pith/pithref8.FS).Ops
-- 59: (*pith/pithref8.FS).Room
-- 60: (*pith/pithref8.FS).Pending
-- 77: (*pith/pithref8.FS).Arm
-- 100: pithref8.FS
-- 5: uint8
-- 125: pithref8.Entry
-- 122: []pithref8.Entry
-- 129: pithref8.Data
-- 139: pithref8.Done
def beginR (r : RSt) (n : Nm) : Int := beginI r.off [n]
structure RFsP (H : Heap) (F : Nat → Prop) (b : Nat) (fv dv pv : Value) (P : List (Value × Dt)) (Q : List (Value × List En)) (r : RSt) : Prop where
  eP : P.map (·.2) = r.files
  eQ : Q.map (·.2) = r.dirs
  hM : H[b]? = some (.cells (rC r fv dv pv) 100)
  hF : Own H 0 129 2 fv (datC P)
  hw : ∀ p ∈ P, Own H 0 5 1 p.1 (p.2.1.map (.int .u8)) ∧ ∀ g, blk p.1 = some g → F g
  ap : (P.map (·.1)).Pairwise Apart
  hD : Own H 0 122 1 dv (Q.map (·.1))
  hv : ∀ q ∈ Q, Own H 0 125 2 q.1 (entC q.2) ∧ ∀ g, blk q.1 = some g → F g
  hP : Own H 0 139 2 pv (doneC r.pend)
  fb : F b
  ff : ∀ g, blk fv = some g → F g
  fd : ∀ g, blk dv = some g → F g
  fp : ∀ g, blk pv = some g → F g
  lt : ∀ g, F g → g < H.size
def RFsH (H : Heap) (F : Nat → Prop) (b : Nat) (r : RSt) : Prop := ∃ fv dv pv P Q, RFsP H F b fv dv pv P Q r
section
variable {H H' : Heap} {F F' : Nat → Prop} {b : Nat} {fv dv pv : Value} {P : List (Value × Dt)} {Q : List (Value × List En)} {r : RSt}
theorem RFsP.keep (h : RFsP H F b fv dv pv P Q r) (hs : H.size ≤ H'.size) (hk : ∀ g, F g → H'[g]? = H[g]?) : RFsP H' F b fv dv pv P Q r :=
  ⟨h.eP, h.eQ, by rw [hk _ h.fb]; exact h.hM, h.hF.keep fun g hg => hk g (h.ff g hg), fun p hp => ⟨(h.hw p hp).1.keep fun g hg => hk g ((h.hw p hp).2 g hg), (h.hw p hp).2⟩, h.ap,
    h.hD.keep fun g hg => hk g (h.fd g hg), fun p hp => ⟨(h.hv p hp).1.keep fun g hg => hk g ((h.hv p hp).2 g hg), (h.hv p hp).2⟩, h.hP.keep fun g hg => hk g (h.fp g hg),
    h.fb, h.ff, h.fd, h.fp, fun g hg => Nat.lt_of_lt_of_le (h.lt g hg) hs⟩
theorem RFsP.ext (h : RFsP H F b fv dv pv P Q r) (hx : Ext H H') : RFsP H' F b fv dv pv P Q r := h.keep hx.size fun g hg => hx.get g (h.lt g hg)
theorem RFsH.ext (h : RFsH H F b r) (hx : Ext H H') : RFsH H' F b r := let ⟨_, _, _, _, _, h⟩ := h; ⟨_, _, _, _, _, h.ext hx⟩
/-- What another one's call turns is no part of this one. -/
theorem RFsH.other {F2 F2' : Nat → Prop} (h : RFsH H F b r) (hc : Ch F2 F2' H H') (hd : ∀ g, F g → ¬ F2 g) : RFsH H' F b r ∧ ∀ g, F g → ¬ F2' g := by
  obtain ⟨_, _, _, _, _, h⟩ := h
  refine ⟨⟨_, _, _, _, _, h.keep hc.size fun g hg => hc.get g (h.lt g hg) (hd g hg)⟩, fun g hg hg2 => ?_⟩
  rcases hc.old g hg2 with e | e
  · exact hd g hg e
  · have := h.lt g hg; omega
theorem RFsP.get (h : RFsP H F b fv dv pv P Q r) : hget H b 0 = some (.int .i64 r.most) ∧ hget H b 1 = some fv ∧ hget H b 2 = some dv ∧ hget H b 3 = some pv ∧ hget H b 4 = some (.bool r.off) ∧ hget H b 5 = some (.int .i64 r.armed) ∧ hget H b 6 = some (.int .i64 r.count) := by
  simp only [hget_cells h.hM]
  exact ⟨rfl, rfl, rfl, rfl, rfl, rfl, rfl⟩
/-- The block b alone is written: power, armed, count. -/
theorem RFsP.setB (h : RFsP H F b fv dv pv P Q r) {r' : RSt} (e1 : r'.files = r.files) (e2 : r'.dirs = r.dirs) (e3 : r'.pend = r.pend)
    (hs : H'.size = H.size) (hk : ∀ g, g ≠ b → H'[g]? = H[g]?) (hb' : H'[b]? = some (.cells (rC r' fv dv pv) 100)) : RFsP H' F b fv dv pv P Q r' ∧ Ch F F H H' := by
  have ko : ∀ {v : Value} {e : TypeId} {sz : Nat} {xs : List Value}, Own H 0 e sz v xs → e ≠ 100 → ∀ g, blk v = some g → H'[g]? = H[g]? := fun ho he g hg => by
    obtain ⟨_, _, c, hc⟩ := ho.blk hg
    exact hk g (tag_ne hc h.hM he)
  exact ⟨⟨by rw [e1]; exact h.eP, by rw [e2]; exact h.eQ, hb', h.hF.keep (ko h.hF (by decide)), fun p hp => ⟨(h.hw p hp).1.keep (ko (h.hw p hp).1 (by decide)), (h.hw p hp).2⟩, h.ap,
    h.hD.keep (ko h.hD (by decide)), fun p hp => ⟨(h.hv p hp).1.keep (ko (h.hv p hp).1 (by decide)), (h.hv p hp).2⟩, by rw [e3]; exact h.hP.keep (ko h.hP (by decide)), h.fb, h.ff, h.fd, h.fp, fun g hg => by rw [hs]; exact h.lt g hg⟩,
    ⟨by omega, fun _ h => .inl h, fun g _ hg => hk g fun e => hg (e ▸ h.fb)⟩⟩
/-- A field of the block, written. -/
theorem RFsP.put (h : RFsP H F b fv dv pv P Q r) (i : Nat) (v : Value) (hi : i < 7) : hcan H b i 1 ∧ (hput H b i [v])[b]? = some (.cells ((rC r fv dv pv).setIfInBounds i v) 100) := by
  refine ⟨hcan_of h.hM (by show i + 1 ≤ 7; omega), ?_⟩
  rw [hput_same h.hM]
  congr 2
  apply Array.ext_getElem?
  intro j
  rw [Array.getElem?_setIfInBounds]
  have h8 : (rC r fv dv pv).size = 7 := rfl
  by_cases hij : i = j
  · subst hij
    have := cput_get_in (c := rC r fv dv pv) (o := i) (vs := [v]) (j := 0) (by simp; omega) (by simp)
    rw [Nat.add_zero] at this
    rw [this]; simp [h8, hi]
  · rw [cput_get_out (by simp; omega) (by simp; omega), if_neg hij]
theorem RFsP.dlen (h : RFsP H F b fv dv pv P Q r) : Q.length = r.dirs.length := by rw [← h.eQ, List.length_map]
theorem RFsP.flen (h : RFsP H F b fv dv pv P Q r) : P.length = r.files.length := by rw [← h.eP, List.length_map]
theorem RFsP.dform (h : RFsP H F b fv dv pv P Q r) : ∃ a cap, dv = .slice a r.dirs.length cap := by
  obtain ⟨a, len, cap, e⟩ := Sl.form h.hD.sl
  have h1 := h.hD.sl
  rw [e] at h1
  have := Sl.length h1
  rw [List.length_map, h.dlen, Nat.mul_one] at this
  exact ⟨a, cap, by rw [e, this]⟩
theorem RFsP.fform (h : RFsP H F b fv dv pv P Q r) : ∃ a cap, fv = .slice a r.files.length cap := by
  obtain ⟨a, len, cap, e⟩ := Sl.form h.hF.sl
  have h1 := h.hF.sl
  rw [e] at h1
  have := Sl.length h1
  rw [datC_len, h.flen] at this
  have : r.files.length = len := by omega
  exact ⟨a, cap, by rw [e, this]⟩
/-- The i-th directory. -/
theorem RFsP.dget (h : RFsP H F b fv dv pv P Q r) {i : Nat} (hi : i < r.dirs.length) : ∃ g o cap v, dv = .slice (some ⟨g, o, none⟩) r.dirs.length cap ∧ hget H g (o + i) = some v ∧ Own H 0 125 2 v (entC (r.dirs.getD i [])) ∧ ∀ g, blk v = some g → F g := by
  obtain ⟨a, cap, e⟩ := h.dform
  have h1 := h.hD.sl
  rw [e] at h1
  obtain ⟨g, o, rfl⟩ := Sl.at h1 (by omega)
  obtain ⟨q, hq⟩ : ∃ q, Q[i]? = some q := ⟨_, List.getElem?_eq_getElem (by rw [h.dlen]; omega)⟩
  have hm := h.hv q (List.mem_of_getElem? hq)
  refine ⟨g, o, cap, q.1, e, ?_, ?_, hm.2⟩
  · rw [Sl.get h1 (by omega), List.getElem?_map, hq]; rfl
  · have : r.dirs.getD i [] = q.2 := by rw [← h.eQ, List.getD_eq_getElem?_getD, List.getElem?_map, hq]; rfl
    rw [this]; exact hm.1
theorem F87 (h : RFsP H F b fv dv pv P Q r) (h0 : 0 < r.dirs.length) (hl : r.dirs.length ≤ 5864062010000) :
    Fun Try.prog 87 #[ptrOf b] H (fun v H' => (Own H 0 125 2 v (entC r.now) ∧ ∀ g, blk v = some g → F g) ∧ H = H') := by
  refine fun_of mixed (args := [_]) Try.func87 Try.ntmps87 b87 r87 rfl ?_
  obtain ⟨g0, g1, g2, g3, g4, g5, g6⟩ := h.get
  obtain ⟨g, o, cap, v, rfl, gv, ho, hF⟩ := h.dget (i := r.dirs.length - 1) (by omega)
  have w1 : IntKind.i64.wrap ((r.dirs.length : Int) - 1) = ((r.dirs.length - 1 : Nat) : Int) := by rw [w64_id (by omega) (by omega)]; omega
  have c0 : (0 : Int) ≤ ((r.dirs.length - 1 : Nat) : Int) := by omega
  have c1 : ((r.dirs.length - 1 : Nat) : Int) < r.dirs.length := by omega
  simp only [go_sem, ↓reduceIte, Nat.reduceEqDiff, Nat.reduceLeDiff, Nat.reduceAdd, Nat.reduceMul, Nat.reduceSub, Nat.reduceBEq, Nat.reduceGT, Nat.reduceLT, Int.reduceLE, Int.reduceLT, Int.reduceNeg, reduceCtorEq, ptrOf, g2, w1, c0, c1, Int.toNat_natCast, gv]
  exact ⟨ho, hF⟩
theorem F91 (h : hget H b 4 = some (.bool r.off)) (n : Nm) :
    Fun Try.prog 91 #[ptrOf b, .string n] H (fun v H' => v = .int .i64 (beginR r n) ∧ H = H') := by
  refine fun_of mixed (args := [_, _]) Try.func91 Try.ntmps91 b91 r91 rfl ?_
  simp only [go_sem, ↓reduceIte, Nat.reduceEqDiff, Nat.reduceLeDiff, Nat.reduceAdd, Nat.reduceMul, Nat.reduceSub, Nat.reduceBEq, Nat.reduceGT, Nat.reduceLT, Int.reduceLE, Int.reduceLT, Int.reduceNeg, reduceCtorEq, ptrOf]
  refine FunI.by (F96 n H) ?_
  rintro _ _ ⟨rfl, rfl⟩
  unfold beginR beginI
  cases hn : isNm n <;> cases ho : r.off <;> rw [ho] at h <;> simp only [go_sem, ↓reduceIte, Nat.reduceEqDiff, Nat.reduceLeDiff, Nat.reduceAdd, Nat.reduceMul, Nat.reduceSub, Nat.reduceBEq, Nat.reduceGT, Nat.reduceLT, Int.reduceLE, Int.reduceLT, Int.reduceNeg, reduceCtorEq, h, hn, List.all_cons, List.all_nil, Bool.and_true, Bool.false_eq_true]
set_option maxHeartbeats 800000 in
theorem F95 (h : RFsP H F b fv dv pv P Q r) (hoff : r.off = false) (ok : 0 ≤ r.armed ∧ r.armed < 9223372036854775808) (hops : 0 ≤ r.count ∧ r.count < 4611686018427387904) :
    Fun Try.prog 95 #[ptrOf b] H (fun v H' => v = .bool (failsR r).2 ∧ RFsP H' F b fv dv pv P Q (failsR r).1 ∧ Ch F F H H') := by
  refine fun_of mixed (args := [_]) Try.func95 Try.ntmps95 b95 r95 rfl ?_
  obtain ⟨g0, g1, g2, g3, g4, g5, g6⟩ := h.get
  have w1 : IntKind.i64.wrap (r.count + 1) = r.count + 1 := w64_id (by omega) (by omega)
  obtain ⟨p1, p2⟩ := h.put 6 (.int .i64 (r.count + 1)) (by omega)
  obtain ⟨k1, k2⟩ := h.setB (r' := { r with count := r.count + 1 }) rfl rfl rfl (hput_size _ _ _ _) (fun g hg => hput_other _ _ _ _ hg) (by rw [p2]; rfl)
  obtain ⟨_, _, _, _, _, q5, _⟩ := k1.get
  simp only at q5
  simp only [go_sem, ↓reduceIte, Nat.reduceEqDiff, Nat.reduceLeDiff, Nat.reduceAdd, Nat.reduceMul, Nat.reduceSub, Nat.reduceBEq, Nat.reduceGT, Nat.reduceLT, Int.reduceLE, Int.reduceLT, Int.reduceNeg, reduceCtorEq, ptrOf, g6, w1, p1]
  generalize hput H b 6 [Value.int .i64 (r.count + 1)] = H1 at *
  by_cases c0 : r.armed = 0
  · have e : failsR r = ({ r with count := r.count + 1 }, false) := by unfold failsR; rw [if_pos c0]
    rw [e]
    simp only [go_sem, ↓reduceIte, Nat.reduceEqDiff, Nat.reduceLeDiff, Nat.reduceAdd, Nat.reduceMul, Nat.reduceSub, Nat.reduceBEq, Nat.reduceGT, Nat.reduceLT, Int.reduceLE, Int.reduceLT, Int.reduceNeg, reduceCtorEq, q5, c0]
    rw [c0] at k1
    exact ⟨rfl, k1, k2⟩
  · have w2 : IntKind.i64.wrap (r.armed - 1) = r.armed - 1 := w64_id (by omega) (by omega)
    obtain ⟨r1, r2⟩ := k1.put 5 (.int .i64 (r.armed - 1)) (by omega)
    obtain ⟨l1, l2⟩ := k1.setB (r' := { r with count := r.count + 1, armed := r.armed - 1 }) rfl rfl rfl (hput_size _ _ _ _) (fun g hg => hput_other _ _ _ _ hg) (by rw [r2]; rfl)
    obtain ⟨_, _, _, _, t4, t5, _⟩ := l1.get
    simp only at t4 t5
    simp only [go_sem, ↓reduceIte, Nat.reduceEqDiff, Nat.reduceLeDiff, Nat.reduceAdd, Nat.reduceMul, Nat.reduceSub, Nat.reduceBEq, Nat.reduceGT, Nat.reduceLT, Int.reduceLE, Int.reduceLT, Int.reduceNeg, reduceCtorEq, q5, c0, w2, r1]
    generalize hput H1 b 5 [Value.int .i64 (r.armed - 1)] = H2 at *
    by_cases c1 : r.armed = 1
    · have w3 : r.armed - 1 = 0 := by omega
      obtain ⟨u1, u2⟩ := l1.put 4 (.bool true) (by omega)
      obtain ⟨v1, v2⟩ := l1.setB (r' := { r with count := r.count + 1, armed := r.armed - 1, off := true }) rfl rfl rfl (hput_size _ _ _ _) (fun g hg => hput_other _ _ _ _ hg) (by rw [u2]; rfl)
      obtain ⟨_, _, _, _, z4, _⟩ := v1.get
      simp only at z4
      have e : failsR r = ({ r with count := r.count + 1, armed := r.armed - 1, off := true }, true) := by unfold failsR; rw [if_neg c0]; simp [c1]
      rw [e]
      simp only [go_sem, ↓reduceIte, Nat.reduceEqDiff, Nat.reduceLeDiff, Nat.reduceAdd, Nat.reduceMul, Nat.reduceSub, Nat.reduceBEq, Nat.reduceGT, Nat.reduceLT, Int.reduceLE, Int.reduceLT, Int.reduceNeg, reduceCtorEq, t5, w3, u1, z4]
      rw [w3] at v1
      exact ⟨rfl, rfl, rfl, v1, (k2.trans l2).trans v2⟩
    · have w3 : ¬ r.armed - 1 = 0 := by omega
      have e : failsR r = ({ r with count := r.count + 1, armed := r.armed - 1 }, false) := by unfold failsR; rw [if_neg c0]; simp [c1, hoff]
      rw [e]
      rw [hoff] at t4
      simp only [go_sem, ↓reduceIte, Nat.reduceEqDiff, Nat.reduceLeDiff, Nat.reduceAdd, Nat.reduceMul, Nat.reduceSub, Nat.reduceBEq, Nat.reduceGT, Nat.reduceLT, Int.reduceLE, Int.reduceLT, Int.reduceNeg, reduceCtorEq, t5, w3, t4]
      exact ⟨rfl, rfl, l1, k2.trans l2⟩
theorem F94 (h : RFsP H F b fv dv pv P Q r) (hoff : r.off = false) (ok : 0 ≤ r.armed ∧ r.armed < 9223372036854775808) (hops : 0 ≤ r.count ∧ r.count < 4611686018427387904) :
    Fun Try.prog 94 #[ptrOf b] H (fun v H' => v = .int .i64 (powerR r).2 ∧ RFsP H' F b fv dv pv P Q (powerR r).1 ∧ Ch F F H H') := by
  refine fun_of mixed (args := [_]) Try.func94 Try.ntmps94 b94 r94 rfl ?_
  simp only [go_sem, ↓reduceIte, Nat.reduceEqDiff, Nat.reduceLeDiff, Nat.reduceAdd, Nat.reduceMul, Nat.reduceSub, Nat.reduceBEq, Nat.reduceGT, Nat.reduceLT, Int.reduceLE, Int.reduceLT, Int.reduceNeg, reduceCtorEq]
  refine FunI.by (F95 h hoff ok hops) ?_
  rintro _ H' ⟨rfl, h1, h2⟩
  unfold powerR
  cases (failsR r).2 <;> simp only [go_sem, ↓reduceIte, Nat.reduceEqDiff, Nat.reduceLeDiff, Nat.reduceAdd, Nat.reduceMul, Nat.reduceSub, Nat.reduceBEq, Nat.reduceGT, Nat.reduceLT, Int.reduceLE, Int.reduceLT, Int.reduceNeg, reduceCtorEq]
  · exact ⟨h1, h2⟩
  · exact ⟨h1, h2⟩
theorem F62 (h : RFsP H F b fv dv pv P Q r) : Fun Try.prog 62 #[ptrOf b] H (fun v H' => v = .bool (!r.off) ∧ H = H') := by
  refine fun_of mixed (args := [_]) Try.func62 Try.ntmps62 b62 r62 rfl ?_
  obtain ⟨g0, g1, g2, g3, g4, g5, g6⟩ := h.get
  simp only [go_sem, ↓reduceIte, Nat.reduceEqDiff, Nat.reduceLeDiff, Nat.reduceAdd, Nat.reduceMul, Nat.reduceSub, Nat.reduceBEq, Nat.reduceGT, Nat.reduceLT, Int.reduceLE, Int.reduceLT, Int.reduceNeg, reduceCtorEq, ptrOf, g4]
theorem F61 (h : RFsP H F b fv dv pv P Q r) : Fun Try.prog 61 #[ptrOf b] H (fun v H' => v = .int .i64 r.count ∧ H = H') := by
  refine fun_of mixed (args := [_]) Try.func61 Try.ntmps61 b61 r61 rfl ?_
  obtain ⟨g0, g1, g2, g3, g4, g5, g6⟩ := h.get
  simp only [go_sem, ↓reduceIte, Nat.reduceEqDiff, Nat.reduceLeDiff, Nat.reduceAdd, Nat.reduceMul, Nat.reduceSub, Nat.reduceBEq, Nat.reduceGT, Nat.reduceLT, Int.reduceLE, Int.reduceLT, Int.reduceNeg, reduceCtorEq, ptrOf, g6]
theorem F59 (h : RFsP H F b fv dv pv P Q r) : Fun Try.prog 59 #[ptrOf b] H (fun v H' => v = .int .i64 r.most ∧ H = H') := by
  refine fun_of mixed (args := [_]) Try.func59 Try.ntmps59 b59 r59 rfl ?_
  obtain ⟨g0, g1, g2, g3, g4, g5, g6⟩ := h.get
  simp only [go_sem, ↓reduceIte, Nat.reduceEqDiff, Nat.reduceLeDiff, Nat.reduceAdd, Nat.reduceMul, Nat.reduceSub, Nat.reduceBEq, Nat.reduceGT, Nat.reduceLT, Int.reduceLE, Int.reduceLT, Int.reduceNeg, reduceCtorEq, ptrOf, g0]
theorem F60 (h : RFsP H F b fv dv pv P Q r) (h0 : 0 < r.dirs.length) (hl : r.dirs.length ≤ 5864062010000) : Fun Try.prog 60 #[ptrOf b] H (fun v H' => v = .int .i64 (r.dirs.length - 1 : Nat) ∧ H = H') := by
  refine fun_of mixed (args := [_]) Try.func60 Try.ntmps60 b60 r60 rfl ?_
  obtain ⟨g0, g1, g2, g3, g4, g5, g6⟩ := h.get
  obtain ⟨a, cap, rfl⟩ := h.dform
  have w1 : IntKind.i64.wrap ((r.dirs.length : Int) - 1) = ((r.dirs.length - 1 : Nat) : Int) := by rw [w64_id (by omega) (by omega)]; omega
  simp only [go_sem, ↓reduceIte, Nat.reduceEqDiff, Nat.reduceLeDiff, Nat.reduceAdd, Nat.reduceMul, Nat.reduceSub, Nat.reduceBEq, Nat.reduceGT, Nat.reduceLT, Int.reduceLE, Int.reduceLT, Int.reduceNeg, reduceCtorEq, ptrOf, g2, w1]
theorem F77 (h : RFsP H F b fv dv pv P Q r) (k : Int) :
    Fun Try.prog 77 #[ptrOf b, .int .i64 k] H (fun v H' => v = .int .i64 (armR r k).2 ∧ RFsP H' F b fv dv pv P Q (armR r k).1 ∧ Ch F F H H') := by
  refine fun_of mixed (args := [_, _]) Try.func77 Try.ntmps77 b77 r77 rfl ?_
  obtain ⟨g0, g1, g2, g3, g4, g5, g6⟩ := h.get
  by_cases c0 : k < 0
  · have e : armR r k = (r, 85) := by unfold armR; rw [if_pos c0]
    rw [e]
    simp only [go_sem, ↓reduceIte, Nat.reduceEqDiff, Nat.reduceLeDiff, Nat.reduceAdd, Nat.reduceMul, Nat.reduceSub, Nat.reduceBEq, Nat.reduceGT, Nat.reduceLT, Int.reduceLE, Int.reduceLT, Int.reduceNeg, reduceCtorEq, c0]
    exact ⟨h, Ch.refl _ _⟩
  cases c1 : r.off with
  | true =>
    have e : armR r k = (r, 81) := by unfold armR; rw [if_neg c0, c1, if_pos rfl]
    rw [e]
    rw [c1] at g4
    simp only [go_sem, ↓reduceIte, Nat.reduceEqDiff, Nat.reduceLeDiff, Nat.reduceAdd, Nat.reduceMul, Nat.reduceSub, Nat.reduceBEq, Nat.reduceGT, Nat.reduceLT, Int.reduceLE, Int.reduceLT, Int.reduceNeg, reduceCtorEq, ptrOf, c0, g4]
    exact ⟨h, Ch.refl _ _⟩
  | false =>
    have e : armR r k = ({ r with armed := k }, 0) := by unfold armR; rw [if_neg c0, c1, if_neg (by simp)]
    obtain ⟨p1, p2⟩ := h.put 5 (.int .i64 k) (by omega)
    obtain ⟨k1, k2⟩ := h.setB (r' := { r with armed := k }) rfl rfl rfl (hput_size _ _ _ _) (fun g hg => hput_other _ _ _ _ hg) (by rw [p2]; rfl)
    rw [e]
    rw [c1] at g4
    simp only [go_sem, ↓reduceIte, Nat.reduceEqDiff, Nat.reduceLeDiff, Nat.reduceAdd, Nat.reduceMul, Nat.reduceSub, Nat.reduceBEq, Nat.reduceGT, Nat.reduceLT, Int.reduceLE, Int.reduceLT, Int.reduceNeg, reduceCtorEq, ptrOf, c0, g4, p1]
    exact ⟨rfl, k1, k2⟩
end
end Go.Proofs.Ytmkheogjnlmkdaa
