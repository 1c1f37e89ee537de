/- CkptBack answers true and leaves all that there was: there and back, and what is taken is what is encoded; the walk, over heaps. -/
import Derived.Test.YtbdclcdoiabapaaDoorVPlain2
set_option linter.unusedSimpArgs false
set_option linter.unusedVariables false
namespace Go.Proofs.YtbdclcdoiabapaaDoor
open Go Go.V
-- 6: pith/pithlaw18.CkptBack
-- 7: pith/pithlaw18.first
-- 11: pith/ckpt.Encode
-- 20: pith/ckpt.Decode
-- 10: pith/pithlaw18.few
-- 17: pith/pithlaw18.short
-- 16: pith/pithlaw18.num
-- 22: pith/pithref.SameCheck
-- 14: pith/pithref.SameBytes
-- 15: pith/pithref.SameByteLists
-- 5: uint8
-- 30: []uint8
-- 31: [][]uint8
-- 4: bool
-- 3: int
-- 28: pith/api.Check

theorem hput_push3 {H : Heap} {z0 z1 z2 a b c : Value} {e : TypeId} : hput (H.push (.cells #[z0, z1, z2] e)) H.size 0 [a, b, c] = H.push (.cells #[a, b, c] e) := hput_push rfl
theorem vput_small {x : Int} (h : 0 ≤ x ∧ x < 16777216) : 1 ≤ (vput x).length ∧ (vput x).length ≤ 4 := by
  rw [vput_len, Int.max_eq_left h.1]
  exact ⟨vlen_pos x, vlen_bound 4 x (by omega) (by omega)⟩
theorem flat_small : ∀ {xs : List Int}, (∀ x ∈ xs, 0 ≤ x ∧ x < 16777216) → xs.length ≤ (xs.flatMap vput).length ∧ (xs.flatMap vput).length ≤ 4 * xs.length
  | [], _ => by simp
  | x :: xs, h => by
    have h1 := vput_small (h x (by simp))
    have h2 := flat_small (xs := xs) fun y hy => h y (by simp [hy])
    rw [List.flatMap_cons, List.length_append, List.length_cons]
    omega
theorem pieces_small : ∀ (m : Nat) {xs : List Int}, xs.length ≤ m → (∀ x ∈ xs, 0 ≤ x ∧ x < 16777216) → ∀ l ∈ pieces xs, 1 ≤ l.length ∧ l.length ≤ 800
  | m, [], _, _, l, hl => by rw [pieces_nil] at hl; cases hl
  | 0, x :: xs, h, _, _, _ => by simp at h
  | m + 1, x :: xs, h, hx, l, hl => by
    rw [pieces_cons (by simp)] at hl
    rcases List.mem_cons.1 hl with rfl | hl
    · have := flat_small (xs := (x :: xs).take 200) fun y hy => hx y (List.mem_of_mem_take hy)
      simp only [List.length_take, List.length_cons] at this
      omega
    · exact pieces_small m (by simp at h ⊢; omega) (fun y hy => hx y (List.mem_of_mem_drop hy)) l hl
theorem data_small {gen p : Int} {xs : List Int} {ds : List Bool} (h : mayC gen p xs ds = true) : ∀ l ∈ chkData xs ds, 1 ≤ l.length ∧ l.length ≤ 1024 := by
  obtain ⟨m1, m2, m3, m4, m5, m6, m7⟩ := mayC_iff.1 h
  intro l hl
  rw [chkData] at hl
  rcases List.mem_append.1 hl with hl | hl
  · have := pieces_small _ (Nat.le_refl _) m7 l hl
    omega
  · split at hl
    · cases hl
    · rw [List.mem_singleton.1 hl, List.length_map]
      omega

set_option maxHeartbeats 4000000 in
set_option maxRecDepth 20000 in
theorem F6 (gen other p : Int) (vc vh vd : Value) (xs : List Int) (ds : List Bool) (head : List Int) (data : List (List Int)) (H : Heap) (hv : Chk H 3 4 vc p xs ds) (hh : Ints H 5 .u8 vh head) (hw : Byt head) (hd : Lists H 30 5 vd data) (hby : ∀ y ∈ data, Byt y)
    (hl : data.length ≤ 1048576) (hl2 : ∀ l ∈ data, l.length ≤ 1048576) (ht : Tab H) :
    Fun Tryd.prog 6 #[.int .i64 gen, .int .i64 other, vc, vh, vd] H (fun r H' => r = .bool true ∧ Ext H H') := by
  have hv' := hv
  obtain ⟨a, b, rfl, ha, hb⟩ := hv'
  obtain ⟨a1, a2, rfl⟩ := ha.form
  obtain ⟨b1, b2, rfl⟩ := hb.form
  obtain ⟨d1, d2, rfl⟩ := hd.form
  obtain ⟨h1, h2, rfl⟩ := hh.form
  refine fun_of mixed (args := [_, _, _, _, _]) Tryd.func6 Tryd.ntmps6 b6 r6 rfl ?_
  simp only [go_sem, ↓reduceIte, Nat.reduceEqDiff, Nat.reduceLeDiff, Nat.reduceAdd, Nat.reduceMul, Nat.reduceSub, Nat.reduceBEq, Nat.reduceGT, Nat.reduceLT, Int.reduceLE, Int.reduceLT, Int.reduceNeg, reduceCtorEq]
  have x1 : Ext H (H.push (.cells #[.int .i64 p, .slice a1 xs.length a2, .slice b1 ds.length b2] 28)) := Ext.push _
  have kB : (H.push (.cells #[.int .i64 p, .slice a1 xs.length a2, .slice b1 ds.length b2] 28))[H.size]? = some (.cells #[.int .i64 p, .slice a1 xs.length a2, .slice b1 ds.length b2] 28) := push_new
  have hv1 := hv.ext x1
  generalize H.push (.cells #[.int .i64 p, .slice a1 xs.length a2, .slice b1 ds.length b2] 28) = H0 at *
  have get3 : ∀ {H' : Heap}, H'[H.size]? = some (.cells #[.int .i64 p, .slice a1 xs.length a2, .slice b1 ds.length b2] 28) → hget H' H.size 0 = some (.int .i64 p) ∧ hget H' H.size 1 = some (.slice a1 xs.length a2) ∧ hget H' H.size 2 = some (.slice b1 ds.length b2) := by
    intro H' h
    unfold hget
    rw [h]
    exact ⟨rfl, rfl, rfl⟩
  refine FunI.by (F7 H0 (ht.ext x1)) ?_
  rintro _ H1 ⟨rfl, hx1⟩
  have hxa := x1.trans (hx1.mono x1.size)
  have kB1 := (hx1.get H.size (Array.getElem?_eq_some_iff.1 kB).1).trans kB
  obtain ⟨g0, g1, g2⟩ := get3 kB1
  have hv2 := hv1.ext hx1
  simp only [go_sem, ↓reduceIte, Nat.reduceEqDiff, Nat.reduceLeDiff, Nat.reduceAdd, Nat.reduceMul, Nat.reduceSub, Nat.reduceBEq, Nat.reduceGT, Nat.reduceLT, Int.reduceLE, Int.reduceLT, Int.reduceNeg, reduceCtorEq, g0, g1, g2, Option.bind_some]
  refine FunI.by (F10 _ p xs ds H1 hv2) ?_
  rintro _ H2 ⟨rfl, hx2⟩
  have hxb := hxa.trans (hx2.mono hxa.size)
  have kB2 := (hx2.get H.size (Array.getElem?_eq_some_iff.1 kB1).1).trans kB1
  obtain ⟨g0, g1, g2⟩ := get3 kB2
  have hv3 := hv2.ext hx2
  by_cases hfew : xs.length ≤ 5000 ∧ ds.length ≤ 5000
  · simp only [go_sem, ↓reduceIte, Nat.reduceEqDiff, Nat.reduceLeDiff, Nat.reduceAdd, Nat.reduceMul, Nat.reduceSub, Nat.reduceBEq, Nat.reduceGT, Nat.reduceLT, Int.reduceLE, Int.reduceLT, Int.reduceNeg, reduceCtorEq, hfew, and_self, decide_true, g0, g1, g2, Option.bind_some]
    refine FunI.by (F17 _ data H2 (hd.ext hxb) (by omega) (fun l hll => by have := hl2 l hll; omega)) ?_
    rintro _ _ ⟨rfl, rfl⟩
    by_cases hsh : data.length < 100 ∧ ∀ l ∈ data, l.length ≤ 5000
    · have hshd := decide_eq_true hsh
      simp only [go_sem, ↓reduceIte, Nat.reduceEqDiff, Nat.reduceLeDiff, Nat.reduceAdd, Nat.reduceMul, Nat.reduceSub, Nat.reduceBEq, Nat.reduceGT, Nat.reduceLT, Int.reduceLE, Int.reduceLT, Int.reduceNeg, reduceCtorEq, hshd, g0, g1, g2, Option.bind_some]
      refine FunI.by (F11 _ gen p xs ds H2 hv3) ?_
      rintro r H4 ⟨hx4, hr⟩
      have hxd := hxb.trans (hx4.mono hxb.size)
      have kB4 := (hx4.get H.size (Array.getElem?_eq_some_iff.1 kB2).1).trans kB2
      obtain ⟨g0, g1, g2⟩ := get3 kB4
      have hv5 := hv3.ext hx4
      rcases hr with ⟨hm, rfl⟩ | ⟨hm, h, l, rfl, hoh, hol⟩
      · have n180 : ¬ (180 : Int) = 0 := by decide
        simp only [go_sem, ↓reduceIte, Nat.reduceEqDiff, Nat.reduceLeDiff, Nat.reduceAdd, Nat.reduceMul, Nat.reduceSub, Nat.reduceBEq, Nat.reduceGT, Nat.reduceLT, Int.reduceLE, Int.reduceLT, Int.reduceNeg, reduceCtorEq]
        refine FunI.by (F16 180 H4) ?_
        rintro _ _ ⟨rfl, rfl⟩
        simp only [go_sem, ↓reduceIte, Nat.reduceEqDiff, Nat.reduceLeDiff, Nat.reduceAdd, Nat.reduceMul, Nat.reduceSub, Nat.reduceBEq, Nat.reduceGT, Nat.reduceLT, Int.reduceLE, Int.reduceLT, Int.reduceNeg, reduceCtorEq, n180]
        refine FunI.by (F20 gen _ _ head data H4 (hh.ext hxd) hw (hd.ext hxd) (fun y hy => ⟨hby y hy, by have := hl2 y hy; omega⟩) (by omega)) ?_
        rintro r K1 hd1
        have hz : ∀ t, decS gen head data = t → decR H4 t r K1 := fun t ht => ht ▸ hd1
        cases hdec : decS gen head data with
        | none =>
          obtain ⟨hy1, rfl⟩ := hz _ hdec
          have hya := hxd.trans (hy1.mono hxd.size)
          have n90 : ¬ (90 : Int) = 0 := by decide
          simp only [go_sem, ↓reduceIte, Nat.reduceEqDiff, Nat.reduceLeDiff, Nat.reduceAdd, Nat.reduceMul, Nat.reduceSub, Nat.reduceBEq, Nat.reduceGT, Nat.reduceLT, Int.reduceLE, Int.reduceLT, Int.reduceNeg, reduceCtorEq]
          refine ⟨rfl, hcan_of push_new (by simp), ?_⟩
          rw [hput_push3]
          have hyb := hya.trans ((Ext.push (Obj.cells #[Value.int .i64 0, .slice none 0 0, .slice none 0 0] 28)).mono hya.size)
          generalize K1.push (Obj.cells #[Value.int .i64 0, .slice none 0 0, .slice none 0 0] 28) = K2 at *
          refine FunI.by (F16 90 K2) ?_
          rintro _ _ ⟨rfl, rfl⟩
          simp only [go_sem, ↓reduceIte, Nat.reduceEqDiff, Nat.reduceLeDiff, Nat.reduceAdd, Nat.reduceMul, Nat.reduceSub, Nat.reduceBEq, Nat.reduceGT, Nat.reduceLT, Int.reduceLE, Int.reduceLT, Int.reduceNeg, reduceCtorEq, n90]
          refine FunI.by (F16 90 K2) ?_
          rintro _ _ ⟨rfl, rfl⟩
          simp only [go_sem, ↓reduceIte, Nat.reduceEqDiff, Nat.reduceLeDiff, Nat.reduceAdd, Nat.reduceMul, Nat.reduceSub, Nat.reduceBEq, Nat.reduceGT, Nat.reduceLT, Int.reduceLE, Int.reduceLT, Int.reduceNeg, reduceCtorEq]
          exact hyb
        | some t =>
          obtain ⟨q, ys, es⟩ := t
          obtain ⟨hy1, w1, w2, rfl, hwo1, hwo2⟩ := hz _ hdec
          have hw1 : Ints K1 3 .i64 w1 ys := hwo1.sl
          have hw2 : Bls K1 4 w2 es := hwo2.sl
          have hya := hxd.trans (hy1.mono hxd.size)
          obtain ⟨k1, k2, k3⟩ := (decS_iff hw hby).1 hdec
          simp only [go_sem, ↓reduceIte, Nat.reduceEqDiff, Nat.reduceLeDiff, Nat.reduceAdd, Nat.reduceMul, Nat.reduceSub, Nat.reduceBEq, Nat.reduceGT, Nat.reduceLT, Int.reduceLE, Int.reduceLT, Int.reduceNeg, reduceCtorEq]
          obtain ⟨w1a, w1b, rfl⟩ := hw1.form
          obtain ⟨w2a, w2b, rfl⟩ := hw2.form
          refine ⟨rfl, hcan_of push_new (by simp), ?_⟩
          rw [hput_push3]
          have hyb := hya.trans ((Ext.push (Obj.cells #[Value.int .i64 q, .slice w1a ys.length w1b, .slice w2a es.length w2b] 28)).mono hya.size)
          have hcb : Chk (K1.push (Obj.cells #[Value.int .i64 q, .slice w1a ys.length w1b, .slice w2a es.length w2b] 28)) 3 4 (.agg #[.int .i64 q, .slice w1a ys.length w1b, .slice w2a es.length w2b]) q ys es := ⟨_, _, rfl, Ints.ext hw1 (Ext.push _), Bls.ext hw2 (Ext.push _)⟩
          have kb : (K1.push (Obj.cells #[Value.int .i64 q, .slice w1a ys.length w1b, .slice w2a es.length w2b] 28))[K1.size]? = some (.cells #[.int .i64 q, .slice w1a ys.length w1b, .slice w2a es.length w2b] 28) := push_new
          generalize K1.push (Obj.cells #[Value.int .i64 q, .slice w1a ys.length w1b, .slice w2a es.length w2b] 28) = K2 at *
          refine FunI.by (F16 0 K2) ?_
          rintro _ _ ⟨rfl, rfl⟩
          have g0 : hget K2 K1.size 0 = some (.int .i64 q) := by unfold hget; rw [kb]; rfl
          have g1 : hget K2 K1.size 1 = some (.slice w1a ys.length w1b) := by unfold hget; rw [kb]; rfl
          have g2 : hget K2 K1.size 2 = some (.slice w2a es.length w2b) := by unfold hget; rw [kb]; rfl
          simp only [go_sem, ↓reduceIte, Nat.reduceEqDiff, Nat.reduceLeDiff, Nat.reduceAdd, Nat.reduceMul, Nat.reduceSub, Nat.reduceBEq, Nat.reduceGT, Nat.reduceLT, Int.reduceLE, Int.reduceLT, Int.reduceNeg, reduceCtorEq, g0, g1, g2, Option.bind_some]
          refine FunI.by (F11 _ gen q ys es K2 hcb) ?_
          rintro r K3 ⟨hy3, hr⟩
          have hyc := hyb.trans (hy3.mono hyb.size)
          rcases hr with ⟨hn, _⟩ | ⟨_, h', l', rfl, hh', hl'⟩
          · rw [k1] at hn; cases hn
          rw [k2] at hh'
          rw [k3] at hl'
          simp only [go_sem, ↓reduceIte, Nat.reduceEqDiff, Nat.reduceLeDiff, Nat.reduceAdd, Nat.reduceMul, Nat.reduceSub, Nat.reduceBEq, Nat.reduceGT, Nat.reduceLT, Int.reduceLE, Int.reduceLT, Int.reduceNeg, reduceCtorEq]
          refine FunI.by (F14 h' _ head head K3 hh'.sl (hh.ext hyc) hw hw) ?_
          rintro _ _ ⟨rfl, rfl⟩
          simp only [go_sem, ↓reduceIte, Nat.reduceEqDiff, Nat.reduceLeDiff, Nat.reduceAdd, Nat.reduceMul, Nat.reduceSub, Nat.reduceBEq, Nat.reduceGT, Nat.reduceLT, Int.reduceLE, Int.reduceLT, Int.reduceNeg, reduceCtorEq]
          refine FunI.by (F15 l' _ data data K3 hl'.lists (hd.ext hyc) hby hby (by omega)) ?_
          rintro _ _ ⟨rfl, rfl⟩
          simp only [go_sem, ↓reduceIte, Nat.reduceEqDiff, Nat.reduceLeDiff, Nat.reduceAdd, Nat.reduceMul, Nat.reduceSub, Nat.reduceBEq, Nat.reduceGT, Nat.reduceLT, Int.reduceLE, Int.reduceLT, Int.reduceNeg, reduceCtorEq, decide_true]
          refine FunI.by (F16 0 K3) ?_
          rintro _ _ ⟨rfl, rfl⟩
          simp only [go_sem, ↓reduceIte, Nat.reduceEqDiff, Nat.reduceLeDiff, Nat.reduceAdd, Nat.reduceMul, Nat.reduceSub, Nat.reduceBEq, Nat.reduceGT, Nat.reduceLT, Int.reduceLE, Int.reduceLT, Int.reduceNeg, reduceCtorEq, decide_true]
          exact hyc
      · simp only [go_sem, ↓reduceIte, Nat.reduceEqDiff, Nat.reduceLeDiff, Nat.reduceAdd, Nat.reduceMul, Nat.reduceSub, Nat.reduceBEq, Nat.reduceGT, Nat.reduceLT, Int.reduceLE, Int.reduceLT, Int.reduceNeg, reduceCtorEq]
        refine FunI.by (F16 0 H4) ?_
        rintro _ _ ⟨rfl, rfl⟩
        simp only [go_sem, ↓reduceIte, Nat.reduceEqDiff, Nat.reduceLeDiff, Nat.reduceAdd, Nat.reduceMul, Nat.reduceSub, Nat.reduceBEq, Nat.reduceGT, Nat.reduceLT, Int.reduceLE, Int.reduceLT, Int.reduceNeg, reduceCtorEq]
        have hlen := data_len xs ds
        have hsm := data_small hm
        have hwd := data_wf xs ds
        have hwh := head_wf gen p xs ds
        obtain ⟨l1, l2, rfl⟩ := hol.lists.form
        have hdec1 : decS gen (chkHead gen p xs ds) (chkData xs ds) = some (p, xs, ds) := (decS_iff hwh hwd).2 ⟨hm, rfl, rfl⟩
        refine FunI.by (F20 gen h _ (chkHead gen p xs ds) (chkData xs ds) H4 hoh.sl hwh hol.lists (fun y hy => ⟨hwd y hy, by have := hsm y hy; omega⟩) (by omega)) ?_
        rintro r H5 hd5
        rw [hdec1] at hd5
        obtain ⟨hx5, w1, w2, rfl, hwo1, hwo2⟩ := hd5
        have hw1 : Ints H5 3 .i64 w1 xs := hwo1.sl
        have hw2 : Bls H5 4 w2 ds := hwo2.sl
        have hxe := hxd.trans (hx5.mono hxd.size)
        simp only [go_sem, ↓reduceIte, Nat.reduceEqDiff, Nat.reduceLeDiff, Nat.reduceAdd, Nat.reduceMul, Nat.reduceSub, Nat.reduceBEq, Nat.reduceGT, Nat.reduceLT, Int.reduceLE, Int.reduceLT, Int.reduceNeg, reduceCtorEq]
        obtain ⟨w1a, w1b, rfl⟩ := hw1.form
        obtain ⟨w2a, w2b, rfl⟩ := hw2.form
        refine ⟨rfl, hcan_of push_new (by simp), ?_⟩
        rw [hput_push3]
        have hx6 : Ext H5 (H5.push (Obj.cells #[Value.int .i64 p, .slice w1a xs.length w1b, .slice w2a ds.length w2b] 28)) := Ext.push _
        have k6 : (H5.push (Obj.cells #[Value.int .i64 p, .slice w1a xs.length w1b, .slice w2a ds.length w2b] 28))[H5.size]? = some (.cells #[.int .i64 p, .slice w1a xs.length w1b, .slice w2a ds.length w2b] 28) := push_new
        have hc6 : Chk (H5.push (Obj.cells #[Value.int .i64 p, .slice w1a xs.length w1b, .slice w2a ds.length w2b] 28)) 3 4 (.agg #[.int .i64 p, .slice w1a xs.length w1b, .slice w2a ds.length w2b]) p xs ds := ⟨_, _, rfl, Ints.ext hw1 hx6, Bls.ext hw2 hx6⟩
        generalize H5.push (Obj.cells #[Value.int .i64 p, .slice w1a xs.length w1b, .slice w2a ds.length w2b] 28) = H6 at *
        have hxf := hxe.trans (hx6.mono hxe.size)
        have hx46 := hx5.trans (hx6.mono hx5.size)
        have kB6 := (hx46.get H.size (Array.getElem?_eq_some_iff.1 kB4).1).trans kB4
        obtain ⟨g0, g1, g2⟩ := get3 kB6
        have j0 : hget H6 H5.size 0 = some (.int .i64 p) := by unfold hget; rw [k6]; rfl
        have j1 : hget H6 H5.size 1 = some (.slice w1a xs.length w1b) := by unfold hget; rw [k6]; rfl
        have j2 : hget H6 H5.size 2 = some (.slice w2a ds.length w2b) := by unfold hget; rw [k6]; rfl
        simp only [go_sem, ↓reduceIte, Nat.reduceEqDiff, Nat.reduceLeDiff, Nat.reduceAdd, Nat.reduceMul, Nat.reduceSub, Nat.reduceBEq, Nat.reduceGT, Nat.reduceLT, Int.reduceLE, Int.reduceLT, Int.reduceNeg, reduceCtorEq, g0, g1, g2, j0, j1, j2, Option.bind_some]
        refine FunI.by (F22 _ _ p p xs xs ds ds H6 hc6 (hv5.ext hx46) (by omega) (by omega)) ?_
        rintro _ H7 ⟨rfl, hx7⟩
        have hxg := hxf.trans (hx7.mono hxf.size)
        have hx47 := hx46.trans (hx7.mono hx46.size)
        simp only [go_sem, ↓reduceIte, Nat.reduceEqDiff, Nat.reduceLeDiff, Nat.reduceAdd, Nat.reduceMul, Nat.reduceSub, Nat.reduceBEq, Nat.reduceGT, Nat.reduceLT, Int.reduceLE, Int.reduceLT, Int.reduceNeg, reduceCtorEq]
        have hdec2 : decS other (chkHead gen p xs ds) (chkData xs ds) = if other = gen then some (p, xs, ds) else none := by
          split
          · rename_i h; rw [h]; exact hdec1
          · rename_i h
            apply decS_gen
            obtain ⟨m1, m2, m3, m4, m5, m6, m7⟩ := mayC_iff.1 hm
            obtain ⟨e0, _⟩ := be_four (a := gen) (b := p) (c := xs.length) (d := ds.length) (by omega) (by omega) (by omega) (by omega)
            rw [chkHead, e0]
            exact fun h' => h h'.symm
        refine FunI.by (F20 other h _ (chkHead gen p xs ds) (chkData xs ds) H7 (Ints.ext hoh.sl hx47) hwh (hol.lists.ext hx47) (fun y hy => ⟨hwd y hy, by have := hsm y hy; omega⟩) (by omega)) ?_
        rintro r H8 hd8
        rw [hdec2] at hd8
        have hr8 : ∃ u1 u2 u3, r = .tuple #[.agg #[u1, u2, u3], .int .i64 (if other = gen then 0 else 90)] ∧ Ext H7 H8 ∧ u1.oneCell' = true ∧ u2.oneCell' = true ∧ u3.oneCell' = true := by
          split at hd8
          · rename_i h
            obtain ⟨hx8, z1, z2, rfl, hz1, hz2⟩ := hd8
            obtain ⟨_, _, rfl⟩ := (show Ints H8 3 .i64 z1 xs from hz1.sl).form
            obtain ⟨_, _, rfl⟩ := (show Bls H8 4 z2 ds from hz2.sl).form
            exact ⟨_, _, _, by rw [if_pos h], hx8, rfl, rfl, rfl⟩
          · rename_i h
            obtain ⟨hx8, rfl⟩ := hd8
            exact ⟨_, _, _, by rw [if_neg h], hx8, rfl, rfl, rfl⟩
        obtain ⟨u1, u2, u3, rfl, hx8, o1, o2, o3⟩ := hr8
        have hxh := hxg.trans (hx8.mono hxg.size)
        have hx48 := hx47.trans (hx8.mono hx47.size)
        obtain ⟨e8, he8⟩ : ∃ e8 : Int, e8 = if other = gen then 0 else 90 := ⟨_, rfl⟩
        have hq8 : decide (e8 = 0) = decide (other = gen) := by
          rw [he8, decide_eq_decide]
          split <;> simp_all
        rw [← he8]
        simp only [go_sem, ↓reduceIte, Nat.reduceEqDiff, Nat.reduceLeDiff, Nat.reduceAdd, Nat.reduceMul, Nat.reduceSub, Nat.reduceBEq, Nat.reduceGT, Nat.reduceLT, Int.reduceLE, Int.reduceLT, Int.reduceNeg, reduceCtorEq]
        refine ⟨by simp [o1, o2, o3], hcan_of push_new (by simp), ?_⟩
        rw [hput_push3]
        have hx9 : Ext H8 (H8.push (.cells #[u1, u2, u3] 28)) := Ext.push _
        generalize H8.push (.cells #[u1, u2, u3] 28) = H9 at *
        have hxi := hxh.trans (hx9.mono hxh.size)
        have hx49 := hx48.trans (hx9.mono hx48.size)
        refine FunI.by (F16 0 H9) ?_
        rintro _ _ ⟨rfl, rfl⟩
        have ht1 : decide (p = p ∧ xs = xs ∧ ds = ds) = true := by simp
        simp only [go_sem, ↓reduceIte, Nat.reduceEqDiff, Nat.reduceLeDiff, Nat.reduceAdd, Nat.reduceMul, Nat.reduceSub, Nat.reduceBEq, Nat.reduceGT, Nat.reduceLT, Int.reduceLE, Int.reduceLT, Int.reduceNeg, reduceCtorEq, ht1]
        refine FunI.by (F16 e8 H9) ?_
        rintro _ _ ⟨rfl, rfl⟩
        simp only [go_sem, ↓reduceIte, Nat.reduceEqDiff, Nat.reduceLeDiff, Nat.reduceAdd, Nat.reduceMul, Nat.reduceSub, Nat.reduceBEq, Nat.reduceGT, Nat.reduceLT, Int.reduceLE, Int.reduceLT, Int.reduceNeg, reduceCtorEq, hq8]
        refine LoopI.by mixed (fun σ H' => ∃ i : Nat, H9 = H' ∧ σ 0 = .int .i64 gen ∧ σ 3 = .slice h1 head.length h2 ∧ σ 4 = .slice d1 data.length d2 ∧ σ 11 = .bool true ∧ σ 13 = .slice l1 (chkData xs ds).length l2 ∧ σ 20 = .int .i64 i ∧ i ≤ (chkData xs ds).length) (fun σ _ => (chkData xs ds).length - (iof (σ 20)).toNat) ?_ ?_
        · exact ⟨0, rfl, by simp only [go_sem, ↓reduceIte, Nat.reduceEqDiff, Nat.reduceLeDiff, Nat.reduceAdd, Nat.reduceMul, Nat.reduceSub, Nat.reduceBEq, Nat.reduceGT, Nat.reduceLT, Int.reduceLE, Int.reduceLT, Int.reduceNeg, reduceCtorEq], by simp only [go_sem, ↓reduceIte, Nat.reduceEqDiff, Nat.reduceLeDiff, Nat.reduceAdd, Nat.reduceMul, Nat.reduceSub, Nat.reduceBEq, Nat.reduceGT, Nat.reduceLT, Int.reduceLE, Int.reduceLT, Int.reduceNeg, reduceCtorEq], by simp only [go_sem, ↓reduceIte, Nat.reduceEqDiff, Nat.reduceLeDiff, Nat.reduceAdd, Nat.reduceMul, Nat.reduceSub, Nat.reduceBEq, Nat.reduceGT, Nat.reduceLT, Int.reduceLE, Int.reduceLT, Int.reduceNeg, reduceCtorEq], by simp only [go_sem, ↓reduceIte, Nat.reduceEqDiff, Nat.reduceLeDiff, Nat.reduceAdd, Nat.reduceMul, Nat.reduceSub, Nat.reduceBEq, Nat.reduceGT, Nat.reduceLT, Int.reduceLE, Int.reduceLT, Int.reduceNeg, reduceCtorEq], by simp only [go_sem, ↓reduceIte, Nat.reduceEqDiff, Nat.reduceLeDiff, Nat.reduceAdd, Nat.reduceMul, Nat.reduceSub, Nat.reduceBEq, Nat.reduceGT, Nat.reduceLT, Int.reduceLE, Int.reduceLT, Int.reduceNeg, reduceCtorEq], by simp only [go_sem, ↓reduceIte, Nat.reduceEqDiff, Nat.reduceLeDiff, Nat.reduceAdd, Nat.reduceMul, Nat.reduceSub, Nat.reduceBEq, Nat.reduceGT, Nat.reduceLT, Int.reduceLE, Int.reduceLT, Int.reduceNeg, reduceCtorEq]; rfl, by omega⟩
        rintro σ _ ⟨i, rfl, f0, f3, f4, f11, f13, f20, hi⟩
        by_cases hlt : i < (chkData xs ds).length
        · have c0 : (0 : Int) ≤ i := by omega
          have c1 : (i : Int) < (chkData xs ds).length := by omega
          obtain ⟨lb, lo, rfl⟩ := hol.lists.at hlt
          obtain ⟨u0, hu0, hi0⟩ := (hol.lists.ext hx49).get hlt
          obtain ⟨y1, y2, rfl⟩ := hi0.form
          have hs := hsm _ (mem_getD hlt [])
          have c2 : ¬ (1024 : Int) < (((chkData xs ds).getD i []).length : Int) := by omega
          have c3 : ¬ ((((chkData xs ds).getD i []).length : Nat) : Int) = 0 := by omega
          simp only [go_sem, ↓reduceIte, Nat.reduceEqDiff, Nat.reduceLeDiff, Nat.reduceAdd, Nat.reduceMul, Nat.reduceSub, Nat.reduceBEq, Nat.reduceGT, Nat.reduceLT, Int.reduceLE, Int.reduceLT, Int.reduceNeg, reduceCtorEq, c6_L0, f0, f3, f4, f11, f13, f20, c0, c1, c2, c3, hu0, w64_id (n := (i : Int) + 1) (by omega) (by omega)]
          exact ⟨Hold.mk ⟨i + 1, rfl, by simp only [go_sem, ↓reduceIte, Nat.reduceEqDiff, Nat.reduceLeDiff, Nat.reduceAdd, Nat.reduceMul, Nat.reduceSub, Nat.reduceBEq, Nat.reduceGT, Nat.reduceLT, Int.reduceLE, Int.reduceLT, Int.reduceNeg, reduceCtorEq, f0], by simp only [go_sem, ↓reduceIte, Nat.reduceEqDiff, Nat.reduceLeDiff, Nat.reduceAdd, Nat.reduceMul, Nat.reduceSub, Nat.reduceBEq, Nat.reduceGT, Nat.reduceLT, Int.reduceLE, Int.reduceLT, Int.reduceNeg, reduceCtorEq, f3], by simp only [go_sem, ↓reduceIte, Nat.reduceEqDiff, Nat.reduceLeDiff, Nat.reduceAdd, Nat.reduceMul, Nat.reduceSub, Nat.reduceBEq, Nat.reduceGT, Nat.reduceLT, Int.reduceLE, Int.reduceLT, Int.reduceNeg, reduceCtorEq, f4], by simp only [go_sem, ↓reduceIte, Nat.reduceEqDiff, Nat.reduceLeDiff, Nat.reduceAdd, Nat.reduceMul, Nat.reduceSub, Nat.reduceBEq, Nat.reduceGT, Nat.reduceLT, Int.reduceLE, Int.reduceLT, Int.reduceNeg, reduceCtorEq, f11], by simp only [go_sem, ↓reduceIte, Nat.reduceEqDiff, Nat.reduceLeDiff, Nat.reduceAdd, Nat.reduceMul, Nat.reduceSub, Nat.reduceBEq, Nat.reduceGT, Nat.reduceLT, Int.reduceLE, Int.reduceLT, Int.reduceNeg, reduceCtorEq, f13], by simp only [go_sem, ↓reduceIte, Nat.reduceEqDiff, Nat.reduceLeDiff, Nat.reduceAdd, Nat.reduceMul, Nat.reduceSub, Nat.reduceBEq, Nat.reduceGT, Nat.reduceLT, Int.reduceLE, Int.reduceLT, Int.reduceNeg, reduceCtorEq]; rfl, by omega⟩, by omega⟩
        · have c1 : ¬ (i : Int) < (chkData xs ds).length := by omega
          simp only [go_sem, ↓reduceIte, Nat.reduceEqDiff, Nat.reduceLeDiff, Nat.reduceAdd, Nat.reduceMul, Nat.reduceSub, Nat.reduceBEq, Nat.reduceGT, Nat.reduceLT, Int.reduceLE, Int.reduceLT, Int.reduceNeg, reduceCtorEq, c6_L0, f0, f3, f4, f11, f13, f20, c1]
          refine FunI.by (F20 gen _ _ head data H9 (hh.ext hxi) hw (hd.ext hxi) (fun y hy => ⟨hby y hy, by have := hl2 y hy; omega⟩) (by omega)) ?_
          rintro r K1 hd1
          have hz : ∀ t, decS gen head data = t → decR H9 t r K1 := fun t ht => ht ▸ hd1
          cases hdec : decS gen head data with
          | none =>
            obtain ⟨hy1, rfl⟩ := hz _ hdec
            have hya := hxi.trans (hy1.mono hxi.size)
            have n90 : ¬ (90 : Int) = 0 := by decide
            simp only [go_sem, ↓reduceIte, Nat.reduceEqDiff, Nat.reduceLeDiff, Nat.reduceAdd, Nat.reduceMul, Nat.reduceSub, Nat.reduceBEq, Nat.reduceGT, Nat.reduceLT, Int.reduceLE, Int.reduceLT, Int.reduceNeg, reduceCtorEq, f0, f3, f4, f11]
            refine ⟨rfl, hcan_of push_new (by simp), ?_⟩
            rw [hput_push3]
            have hyb := hya.trans ((Ext.push (Obj.cells #[Value.int .i64 0, .slice none 0 0, .slice none 0 0] 28)).mono hya.size)
            generalize K1.push (Obj.cells #[Value.int .i64 0, .slice none 0 0, .slice none 0 0] 28) = K2 at *
            refine FunI.by (F16 90 K2) ?_
            rintro _ _ ⟨rfl, rfl⟩
            simp only [go_sem, ↓reduceIte, Nat.reduceEqDiff, Nat.reduceLeDiff, Nat.reduceAdd, Nat.reduceMul, Nat.reduceSub, Nat.reduceBEq, Nat.reduceGT, Nat.reduceLT, Int.reduceLE, Int.reduceLT, Int.reduceNeg, reduceCtorEq, n90, f0, f3, f4, f11]
            refine FunI.by (F16 90 K2) ?_
            rintro _ _ ⟨rfl, rfl⟩
            simp only [go_sem, ↓reduceIte, Nat.reduceEqDiff, Nat.reduceLeDiff, Nat.reduceAdd, Nat.reduceMul, Nat.reduceSub, Nat.reduceBEq, Nat.reduceGT, Nat.reduceLT, Int.reduceLE, Int.reduceLT, Int.reduceNeg, reduceCtorEq, f0, f3, f4, f11]
            exact hyb
          | some t =>
            obtain ⟨q, ys, es⟩ := t
            obtain ⟨hy1, w1, w2, rfl, hwo1, hwo2⟩ := hz _ hdec
            have hw1 : Ints K1 3 .i64 w1 ys := hwo1.sl
            have hw2 : Bls K1 4 w2 es := hwo2.sl
            have hya := hxi.trans (hy1.mono hxi.size)
            obtain ⟨k1, k2, k3⟩ := (decS_iff hw hby).1 hdec
            simp only [go_sem, ↓reduceIte, Nat.reduceEqDiff, Nat.reduceLeDiff, Nat.reduceAdd, Nat.reduceMul, Nat.reduceSub, Nat.reduceBEq, Nat.reduceGT, Nat.reduceLT, Int.reduceLE, Int.reduceLT, Int.reduceNeg, reduceCtorEq, f0, f3, f4, f11]
            obtain ⟨w1a, w1b, rfl⟩ := hw1.form
            obtain ⟨w2a, w2b, rfl⟩ := hw2.form
            refine ⟨rfl, hcan_of push_new (by simp), ?_⟩
            rw [hput_push3]
            have hyb := hya.trans ((Ext.push (Obj.cells #[Value.int .i64 q, .slice w1a ys.length w1b, .slice w2a es.length w2b] 28)).mono hya.size)
            have hcb : Chk (K1.push (Obj.cells #[Value.int .i64 q, .slice w1a ys.length w1b, .slice w2a es.length w2b] 28)) 3 4 (.agg #[.int .i64 q, .slice w1a ys.length w1b, .slice w2a es.length w2b]) q ys es := ⟨_, _, rfl, Ints.ext hw1 (Ext.push _), Bls.ext hw2 (Ext.push _)⟩
            have kb : (K1.push (Obj.cells #[Value.int .i64 q, .slice w1a ys.length w1b, .slice w2a es.length w2b] 28))[K1.size]? = some (.cells #[.int .i64 q, .slice w1a ys.length w1b, .slice w2a es.length w2b] 28) := push_new
            generalize K1.push (Obj.cells #[Value.int .i64 q, .slice w1a ys.length w1b, .slice w2a es.length w2b] 28) = K2 at *
            refine FunI.by (F16 0 K2) ?_
            rintro _ _ ⟨rfl, rfl⟩
            have g0 : hget K2 K1.size 0 = some (.int .i64 q) := by unfold hget; rw [kb]; rfl
            have g1 : hget K2 K1.size 1 = some (.slice w1a ys.length w1b) := by unfold hget; rw [kb]; rfl
            have g2 : hget K2 K1.size 2 = some (.slice w2a es.length w2b) := by unfold hget; rw [kb]; rfl
            simp only [go_sem, ↓reduceIte, Nat.reduceEqDiff, Nat.reduceLeDiff, Nat.reduceAdd, Nat.reduceMul, Nat.reduceSub, Nat.reduceBEq, Nat.reduceGT, Nat.reduceLT, Int.reduceLE, Int.reduceLT, Int.reduceNeg, reduceCtorEq, g0, g1, g2, Option.bind_some, f0, f3, f4, f11]
            refine FunI.by (F11 _ gen q ys es K2 hcb) ?_
            rintro r K3 ⟨hy3, hr⟩
            have hyc := hyb.trans (hy3.mono hyb.size)
            rcases hr with ⟨hn, _⟩ | ⟨_, h', l', rfl, hh', hl'⟩
            · rw [k1] at hn; cases hn
            rw [k2] at hh'
            rw [k3] at hl'
            simp only [go_sem, ↓reduceIte, Nat.reduceEqDiff, Nat.reduceLeDiff, Nat.reduceAdd, Nat.reduceMul, Nat.reduceSub, Nat.reduceBEq, Nat.reduceGT, Nat.reduceLT, Int.reduceLE, Int.reduceLT, Int.reduceNeg, reduceCtorEq, f0, f3, f4, f11]
            refine FunI.by (F14 h' _ head head K3 hh'.sl (hh.ext hyc) hw hw) ?_
            rintro _ _ ⟨rfl, rfl⟩
            simp only [go_sem, ↓reduceIte, Nat.reduceEqDiff, Nat.reduceLeDiff, Nat.reduceAdd, Nat.reduceMul, Nat.reduceSub, Nat.reduceBEq, Nat.reduceGT, Nat.reduceLT, Int.reduceLE, Int.reduceLT, Int.reduceNeg, reduceCtorEq, f0, f3, f4, f11]
            refine FunI.by (F15 l' _ data data K3 hl'.lists (hd.ext hyc) hby hby (by omega)) ?_
            rintro _ _ ⟨rfl, rfl⟩
            simp only [go_sem, ↓reduceIte, Nat.reduceEqDiff, Nat.reduceLeDiff, Nat.reduceAdd, Nat.reduceMul, Nat.reduceSub, Nat.reduceBEq, Nat.reduceGT, Nat.reduceLT, Int.reduceLE, Int.reduceLT, Int.reduceNeg, reduceCtorEq, decide_true, f0, f3, f4, f11]
            refine FunI.by (F16 0 K3) ?_
            rintro _ _ ⟨rfl, rfl⟩
            simp only [go_sem, ↓reduceIte, Nat.reduceEqDiff, Nat.reduceLeDiff, Nat.reduceAdd, Nat.reduceMul, Nat.reduceSub, Nat.reduceBEq, Nat.reduceGT, Nat.reduceLT, Int.reduceLE, Int.reduceLT, Int.reduceNeg, reduceCtorEq, decide_true, f0, f3, f4, f11]
            exact hyc
    · have hshd := decide_eq_false hsh
      simp only [go_sem, ↓reduceIte, Nat.reduceEqDiff, Nat.reduceLeDiff, Nat.reduceAdd, Nat.reduceMul, Nat.reduceSub, Nat.reduceBEq, Nat.reduceGT, Nat.reduceLT, Int.reduceLE, Int.reduceLT, Int.reduceNeg, reduceCtorEq, hshd]
      exact hxb
  · simp only [go_sem, ↓reduceIte, Nat.reduceEqDiff, Nat.reduceLeDiff, Nat.reduceAdd, Nat.reduceMul, Nat.reduceSub, Nat.reduceBEq, Nat.reduceGT, Nat.reduceLT, Int.reduceLE, Int.reduceLT, Int.reduceNeg, reduceCtorEq, hfew, decide_false]
    exact hxb
end Go.Proofs.YtbdclcdoiabapaaDoor
