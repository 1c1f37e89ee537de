/- ckpt.Decode answers what decS says, for any head and payloads, and leaves all that there was. -/
import Derived.Test.YtbdclcdoiabapaaDoorVRrdr
set_option linter.unusedSimpArgs false
set_option linter.unusedVariables false
namespace Go.Proofs.YtbdclcdoiabapaaDoor
open Go Go.V
-- 20: pith/ckpt.Decode
-- 32: pith/ckpt.read
-- 33: pith/ckpt.bounds
-- 34: pith/ckpt.dirty
-- 24: pith/ckpt.may
-- 5: uint8
-- 30: []uint8
-- 31: [][]uint8
-- 4: bool
-- 3: int
-- 28: pith/api.Check
-- 54: pith/ckpt.numbers

/-- What Decode answers. -/
def decS (id : Int) (head : List Int) (data : List (List Int)) : Option (Int × List Int × List Bool) :=
  if head.length = 16 ∧ be head 8 ≤ 16777216 ∧ be head 8 ≤ data.length * 200 ∧ be head 12 ≤ 1000 then
    match bspec (be head 8).toNat data with
    | none => none
    | some (xs, l) => match dspec (be head 12).toNat l with
      | none => none
      | some ds => if mayC id (be head 4) xs ds = true ∧ be head 0 = id ∧ be head 8 = xs.length ∧ be head 12 = ds.length then some (be head 4, xs, ds) else none
  else none
theorem be_lt {xs : List Int} (hw : Byt xs) {i : Nat} (h : i + 3 < xs.length) : 0 ≤ be xs i ∧ be xs i < 4294967296 := by
  have h0 := hw _ (mem_getD (xs := xs) (i := i) (by omega) 0)
  have h1 := hw _ (mem_getD (xs := xs) (i := i + 1) (by omega) 0)
  have h2 := hw _ (mem_getD (xs := xs) (i := i + 2) (by omega) 0)
  have h3 := hw _ (mem_getD (xs := xs) (i := i + 3) (by omega) 0)
  unfold be
  omega

def decR (H : Heap) (o : Option (Int × List Int × List Bool)) (r : Value) (H' : Heap) : Prop := Ext H H' ∧ match o with
  | none => r = .tuple #[.agg #[.int .i64 0, .slice none 0 0, .slice none 0 0], .int .i64 90]
  | some (p, xs, ds) => ∃ a b, r = .tuple #[.agg #[.int .i64 p, a, b], .int .i64 0] ∧ Own H' H.size 3 1 a (xs.map (.int .i64)) ∧ Own H' H.size 4 1 b (ds.map .bool)

set_option maxHeartbeats 1600000 in
set_option maxRecDepth 20000 in
theorem F20 (id : Int) (vh vd : Value) (head : List Int) (data : List (List Int)) (H : Heap) (hh : Ints H 5 .u8 vh head) (hw : Byt head) (hd : Lists H 30 5 vd data) (hb : ∀ xs ∈ data, Byt xs ∧ xs.length ≤ 140737488350000) (hl : data.length ≤ 1000000000) :
    Fun Tryd.prog 20 #[.int .i64 id, vh, vd] H (decR H (decS id head data)) := by
  obtain ⟨d1, d2, rfl⟩ := hd.form
  refine fun_of mixed (args := [_, _, _]) Tryd.func20 Tryd.ntmps20 b20 r20 rfl ?_
  have bad : ∀ {H' : Heap}, (∃ c, H'[H.size]? = some (.cells c 28) ∧ c.size = 3) → Ext H H' → decS id head data = none →
      hcan H' H.size 0 3 ∧ loadV (tyOf Tryd.prog) 28 (.pointer (some ⟨H.size, 0, none⟩)) (hput H' H.size 0 [.int .i64 0, .slice none 0 0, .slice none 0 0]) fun v =>
        decR H (decS id head data) (.tuple #[v, .int .i64 90]) (hput H' H.size 0 [.int .i64 0, .slice none 0 0, .slice none 0 0]) := by
    rintro H' ⟨c, hc, hs⟩ hx hn
    refine ⟨hcan_of hc (by omega), ?_⟩
    rw [hn]
    simp only [loadV, ty28]
    exact ⟨_, hgets_put hc (by simp [hs]) rfl, hx.hput (Nat.le_refl _), rfl⟩
  simp only [go_sem, ↓reduceIte, Nat.reduceEqDiff, Nat.reduceLeDiff, Nat.reduceAdd, Nat.reduceMul, Nat.reduceSub, Nat.reduceBEq, Nat.reduceGT, Nat.reduceLT, Int.reduceLE, Int.reduceLT, Int.reduceNeg, reduceCtorEq]
  refine FunI.by (F32 vh head _ (hh.ext (Ext.push _)) hw) ?_
  rintro _ H1 ⟨hx1, rfl⟩
  have r1 : ∃ c, H1[H.size]? = some (.cells c 28) ∧ c.size = 3 := ⟨_, (hx1.get _ (by simp)).trans push_new, rfl⟩
  have hxa : Ext H H1 := (Ext.push _).trans (hx1.mono (by simp))
  have hs1 : H.size < H1.size := by have := hx1.size; simp at this; omega
  have r1p : ∀ x : Obj, ∃ c, (H1.push x)[H.size]? = some (.cells c 28) ∧ c.size = 3 := fun x => by obtain ⟨c, h1, h2⟩ := r1; exact ⟨c, (push_old hs1).trans h1, h2⟩
  by_cases h16 : head.length = 16
  · have hn4 : nums head 4 = #[.int .i64 (be head 0), .int .i64 (be head 4), .int .i64 (be head 8), .int .i64 (be head 12)] := rfl
    simp only [h16, if_true, hn4]
    have t2 : Int.toNat 2 = 2 := rfl
    have t3 : Int.toNat 3 = 3 := rfl
    have b0 := be_lt hw (i := 0) (by omega)
    have b1 := be_lt hw (i := 4) (by omega)
    have b2 := be_lt hw (i := 8) (by omega)
    have b3 := be_lt hw (i := 12) (by omega)
    have w1 : IntKind.i64.wrap ((data.length : Int) * 200) = (data.length : Int) * 200 := w64_id (by omega) (by omega)
    by_cases c1 : 16777216 < be head 8
    · simp only [go_sem, ↓reduceIte, Nat.reduceEqDiff, Nat.reduceLeDiff, Nat.reduceAdd, Nat.reduceMul, Nat.reduceSub, Nat.reduceBEq, Nat.reduceGT, Nat.reduceLT, Int.reduceLE, Int.reduceLT, Int.reduceNeg, reduceCtorEq, hput_push, hcan_push, List.all_cons, List.all_nil, Value.oneCell', t2, t3, Int.toNat_one, c1]
      exact ⟨by decide, bad (r1p _) (hxa.trans ((Ext.push _).mono hxa.size)) (by unfold decS; rw [if_neg (by omega)])⟩
    by_cases c2 : (data.length : Int) * 200 < be head 8
    · simp only [go_sem, ↓reduceIte, Nat.reduceEqDiff, Nat.reduceLeDiff, Nat.reduceAdd, Nat.reduceMul, Nat.reduceSub, Nat.reduceBEq, Nat.reduceGT, Nat.reduceLT, Int.reduceLE, Int.reduceLT, Int.reduceNeg, reduceCtorEq, hput_push, hcan_push, List.all_cons, List.all_nil, Value.oneCell', t2, t3, Int.toNat_one, c1, c2, w1]
      exact ⟨by decide, by decide, bad (r1p _) (hxa.trans ((Ext.push _).mono hxa.size)) (by unfold decS; rw [if_neg (by omega)])⟩
    by_cases c3 : 1000 < be head 12
    · simp only [go_sem, ↓reduceIte, Nat.reduceEqDiff, Nat.reduceLeDiff, Nat.reduceAdd, Nat.reduceMul, Nat.reduceSub, Nat.reduceBEq, Nat.reduceGT, Nat.reduceLT, Int.reduceLE, Int.reduceLT, Int.reduceNeg, reduceCtorEq, hput_push, hcan_push, List.all_cons, List.all_nil, Value.oneCell', t2, t3, Int.toNat_one, c1, c2, c3, w1]
      exact ⟨by decide, by decide, by decide, bad (r1p _) (hxa.trans ((Ext.push _).mono hxa.size)) (by unfold decS; rw [if_neg (by omega)])⟩
    simp only [go_sem, ↓reduceIte, Nat.reduceEqDiff, Nat.reduceLeDiff, Nat.reduceAdd, Nat.reduceMul, Nat.reduceSub, Nat.reduceBEq, Nat.reduceGT, Nat.reduceLT, Int.reduceLE, Int.reduceLT, Int.reduceNeg, reduceCtorEq, hput_push, hcan_push, List.all_cons, List.all_nil, Value.oneCell', t2, t3, Int.toNat_one, c1, c2, c3, w1]
    refine ⟨by decide, by decide, by decide, by decide, by decide, ?_⟩
    have hsp : decS id head data = match bspec (be head 8).toNat data with
      | none => none
      | some (xs, l) => match dspec (be head 12).toNat l with
        | none => none
        | some ds => if mayC id (be head 4) xs ds = true ∧ be head 0 = id ∧ be head 8 = xs.length ∧ be head 12 = ds.length then some (be head 4, xs, ds) else none := by
      unfold decS
      rw [if_pos ⟨h16, by omega, by omega, by omega⟩]
    have hx2 : Ext H1 ((H1.push (Obj.cells #[.int .i64 (be head 0), .int .i64 (be head 4), .int .i64 (be head 8), .int .i64 (be head 12)] 54)).push (Obj.cells #[.int .i64 (be head 4), .slice none 0 0, .slice none 0 0] 28)) := (Ext.push _).trans ((Ext.push _).mono (by simp))
    refine FunI.by (F33 (be head 8) _ data H _ hd (hxa.trans (hx2.mono hxa.size)) hb b2.1 (by omega)) ?_
    rintro r H2 ⟨hx3, hr⟩
    have hx4 : Ext H1 H2 := hx2.trans (hx3.mono hx2.size)
    have kN : H2[H1.size]? = some (Obj.cells #[.int .i64 (be head 0), .int .i64 (be head 4), .int .i64 (be head 8), .int .i64 (be head 12)] 54) := by
      rw [hx3.get _ (by simp; omega), push_old (by simp)]
      exact push_new
    have kC : H2[H1.size + 1]? = some (Obj.cells #[.int .i64 (be head 4), .slice none 0 0, .slice none 0 0] 28) := by
      rw [hx3.get _ (by simp)]
      rw [show H1.size + 1 = (H1.push (Obj.cells #[.int .i64 (be head 0), .int .i64 (be head 4), .int .i64 (be head 8), .int .i64 (be head 12)] 54)).size by simp]
      exact push_new
    have hsz : (H1.push (Obj.cells #[Value.int .i64 (be head 0), .int .i64 (be head 4), .int .i64 (be head 8), .int .i64 (be head 12)] 54)).size = H1.size + 1 := by simp
    have r2 : ∀ vs, ∃ c, (hput H2 (H1.size + 1) 1 vs)[H.size]? = some (.cells c 28) ∧ c.size = 3 := fun vs => by
      obtain ⟨c, h1, h2⟩ := r1
      exact ⟨c, by rw [hput_other _ _ _ _ (by omega), hx4.get _ hs1]; exact h1, h2⟩
    have hxb : Ext H H2 := hxa.trans (hx4.mono hxa.size)
    cases hbs : bspec (be head 8).toNat data with
    | none =>
      rw [hbs] at hr hsp
      subst hr
      simp only [go_sem, ↓reduceIte, Nat.reduceEqDiff, Nat.reduceLeDiff, Nat.reduceAdd, Nat.reduceMul, Nat.reduceSub, Nat.reduceBEq, Nat.reduceGT, Nat.reduceLT, Int.reduceLE, Int.reduceLT, Int.reduceNeg, reduceCtorEq, hsz]
      exact ⟨rfl, hcan_of kC (by simp), rfl, bad (r2 _) (hxb.hput (by omega)) hsp⟩
    | some q =>
      obtain ⟨xs, l⟩ := q
      rw [hbs] at hr hsp
      obtain ⟨va, vl, rfl, hova, hlvl, hlin⟩ := hr
      obtain ⟨v1, v2, rfl⟩ := (show Ints H2 3 .i64 va xs from hova.sl).form
      have k3 : hget (hput H2 (H1.size + 1) 1 [.slice v1 xs.length v2]) H1.size 3 = some (.int .i64 (be head 12)) := by
        unfold hget
        rw [hput_other _ _ _ _ (by omega), kN]
        rfl
      simp only [go_sem, ↓reduceIte, Nat.reduceEqDiff, Nat.reduceLeDiff, Nat.reduceAdd, Nat.reduceMul, Nat.reduceSub, Nat.reduceBEq, Nat.reduceGT, Nat.reduceLT, Int.reduceLE, Int.reduceLT, Int.reduceNeg, reduceCtorEq, hsz, t3, k3]
      refine ⟨rfl, hcan_of kC (by simp), by decide, ?_⟩
      have kC3 : (hput H2 (H1.size + 1) 1 [.slice v1 xs.length v2])[H1.size + 1]? = some (Obj.cells #[.int .i64 (be head 4), .slice v1 xs.length v2, .slice none 0 0] 28) := hput_same kC
      have kN3 : (hput H2 (H1.size + 1) 1 [.slice v1 xs.length v2])[H1.size]? = _ := (hput_other _ _ _ _ (by omega)).trans kN
      have hl3 : Lists (hput H2 (H1.size + 1) 1 [.slice v1 xs.length v2]) 30 5 vl l := hlvl.ext (hxb.hput (by omega))
      have hi3 : Own (hput H2 (H1.size + 1) 1 [.slice v1 xs.length v2]) _ 3 1 (.slice v1 xs.length v2) (xs.map (.int .i64)) := hova.keepT fun b c fr hb => hput_other _ _ _ _ (by
        rintro rfl
        rw [kC] at hb
        cases hb)
      have hxc : Ext H (hput H2 (H1.size + 1) 1 [.slice v1 xs.length v2]) := hxb.hput (by omega)
      have r3 := r2 [.slice v1 xs.length v2]
      generalize hput H2 (H1.size + 1) 1 [.slice v1 xs.length v2] = H3 at *
      refine FunI.by (F34 (be head 12) vl l H3 hl3 (fun y hy => hb y (hlin y hy)) b3.1 (by omega)) ?_
      rintro r H4 ⟨hx5, hr⟩
      have hx6 : Ext H H4 := hxc.trans (hx5.mono hxc.size)
      have kC4 := (hx5.get (H1.size + 1) (Array.getElem?_eq_some_iff.1 kC3).1).trans kC3
      have kN4 := (hx5.get H1.size (Array.getElem?_eq_some_iff.1 kN3).1).trans kN3
      have r4 : ∀ vs, ∃ c, (hput H4 (H1.size + 1) 2 vs)[H.size]? = some (.cells c 28) ∧ c.size = 3 := fun vs => by
        obtain ⟨c, h1, h2⟩ := r3
        exact ⟨c, by rw [hput_other _ _ _ _ (by omega), hx5.get _ (Array.getElem?_eq_some_iff.1 h1).1]; exact h1, h2⟩
      cases hds : dspec (be head 12).toNat l with
      | none =>
        rw [hds] at hr
        simp only [hds] at hsp
        subst hr
        simp only [go_sem, ↓reduceIte, Nat.reduceEqDiff, Nat.reduceLeDiff, Nat.reduceAdd, Nat.reduceMul, Nat.reduceSub, Nat.reduceBEq, Nat.reduceGT, Nat.reduceLT, Int.reduceLE, Int.reduceLT, Int.reduceNeg, reduceCtorEq, hsz]
        exact ⟨rfl, hcan_of kC4 (by simp), rfl, bad (r4 _) (hx6.hput (by omega)) hsp⟩
      | some ds =>
        rw [hds] at hr
        simp only [hds] at hsp
        obtain ⟨vb, rfl, hob⟩ := hr
        obtain ⟨y1, y2, rfl⟩ := (show Bls H4 4 vb ds from hob.sl).form
        have kC5 : (hput H4 (H1.size + 1) 2 [.slice y1 ds.length y2])[H1.size + 1]? = some (Obj.cells #[.int .i64 (be head 4), .slice v1 xs.length v2, .slice y1 ds.length y2] 28) := hput_same kC4
        have kN5 : (hput H4 (H1.size + 1) 2 [.slice y1 ds.length y2])[H1.size]? = _ := (hput_other _ _ _ _ (by omega)).trans kN4
        have ho5 : Own (hput H4 (H1.size + 1) 2 [.slice y1 ds.length y2]) _ 3 1 (.slice v1 xs.length v2) (xs.map (.int .i64)) := (hi3.ext hx5).keepT fun b c fr hb => hput_other _ _ _ _ (by
          rintro rfl
          rw [kC4] at hb
          cases hb)
        have hob5 : Own (hput H4 (H1.size + 1) 2 [.slice y1 ds.length y2]) _ 4 1 (.slice y1 ds.length y2) (ds.map .bool) := hob.keepT fun b c fr hb => hput_other _ _ _ _ (by
          rintro rfl
          rw [kC4] at hb
          cases hb)
        have hi5 : Ints (hput H4 (H1.size + 1) 2 [.slice y1 ds.length y2]) 3 .i64 (.slice v1 xs.length v2) xs := ho5.sl
        have hb5 : Bls (hput H4 (H1.size + 1) 2 [.slice y1 ds.length y2]) 4 (.slice y1 ds.length y2) ds := hob5.sl
        have r5 := r4 [.slice y1 ds.length y2]
        have hx7 : Ext H (hput H4 (H1.size + 1) 2 [.slice y1 ds.length y2]) := hx6.hput (by omega)
        have c0 : hget (hput H4 (H1.size + 1) 2 [.slice y1 ds.length y2]) (H1.size + 1) 0 = some (.int .i64 (be head 4)) := by unfold hget; rw [kC5]; rfl
        have c1' : hget (hput H4 (H1.size + 1) 2 [.slice y1 ds.length y2]) (H1.size + 1) 1 = some (.slice v1 xs.length v2) := by unfold hget; rw [kC5]; rfl
        have c2' : hget (hput H4 (H1.size + 1) 2 [.slice y1 ds.length y2]) (H1.size + 1) 2 = some (.slice y1 ds.length y2) := by unfold hget; rw [kC5]; rfl
        simp only [go_sem, ↓reduceIte, Nat.reduceEqDiff, Nat.reduceLeDiff, Nat.reduceAdd, Nat.reduceMul, Nat.reduceSub, Nat.reduceBEq, Nat.reduceGT, Nat.reduceLT, Int.reduceLE, Int.reduceLT, Int.reduceNeg, reduceCtorEq, hsz, c0, c1', c2']
        refine ⟨rfl, hcan_of kC4 (by simp), ?_⟩
        refine FunI.by (F24 _ id (be head 4) xs ds _ ⟨_, _, rfl, hi5, hb5⟩) ?_
        rintro _ H6 ⟨rfl, hx8⟩
        have kC6 := (hx8.get (H1.size + 1) (Array.getElem?_eq_some_iff.1 kC5).1).trans kC5
        have kN6 := (hx8.get H1.size (Array.getElem?_eq_some_iff.1 kN5).1).trans kN5
        have r6 : ∃ c, H6[H.size]? = some (.cells c 28) ∧ c.size = 3 := by
          obtain ⟨c, h1, h2⟩ := r5
          exact ⟨c, by rw [hx8.get _ (Array.getElem?_eq_some_iff.1 h1).1]; exact h1, h2⟩
        have hx9 : Ext H H6 := hx7.trans (hx8.mono hx7.size)
        cases hm : mayC id (be head 4) xs ds with
        | false =>
          simp only [go_sem, ↓reduceIte, Nat.reduceEqDiff, Nat.reduceLeDiff, Nat.reduceAdd, Nat.reduceMul, Nat.reduceSub, Nat.reduceBEq, Nat.reduceGT, Nat.reduceLT, Int.reduceLE, Int.reduceLT, Int.reduceNeg, reduceCtorEq, hsz]
          exact ⟨rfl, bad r6 hx9 (by rw [hsp, if_neg]; rintro ⟨h, _⟩; rw [hm] at h; cases h)⟩
        | true =>
          have d0 : hget H6 (H1.size + 1) 0 = some (.int .i64 (be head 4)) := by unfold hget; rw [kC6]; rfl
          have d1' : hget H6 (H1.size + 1) 1 = some (.slice v1 xs.length v2) := by unfold hget; rw [kC6]; rfl
          have d2' : hget H6 (H1.size + 1) 2 = some (.slice y1 ds.length y2) := by unfold hget; rw [kC6]; rfl
          have n0 : hget H6 H1.size 0 = some (.int .i64 (be head 0)) := by unfold hget; rw [kN6]; rfl
          have n1 : hget H6 H1.size 1 = some (.int .i64 (be head 4)) := by unfold hget; rw [kN6]; rfl
          have n2 : hget H6 H1.size 2 = some (.int .i64 (be head 8)) := by unfold hget; rw [kN6]; rfl
          have n3 : hget H6 H1.size 3 = some (.int .i64 (be head 12)) := by unfold hget; rw [kN6]; rfl
          simp only [go_sem, ↓reduceIte, Nat.reduceEqDiff, Nat.reduceLeDiff, Nat.reduceAdd, Nat.reduceMul, Nat.reduceSub, Nat.reduceBEq, Nat.reduceGT, Nat.reduceLT, Int.reduceLE, Int.reduceLT, Int.reduceNeg, reduceCtorEq, hsz, d0, d1', d2', n0, n1, n2, n3]
          refine RunI.by (ne_numbers (.tmp 71) (.tmp 81) [be head 0, be head 4, be head 8, be head 12] [id, be head 4, (xs.length : Int), (ds.length : Int)] H6 rfl rfl) ?_
          rintro _ _ ⟨rfl, rfl⟩
          by_cases he : be head 0 = id ∧ be head 8 = xs.length ∧ be head 12 = ds.length
          · have hq : ([be head 0, be head 4, be head 8, be head 12] : List Int) = [id, be head 4, (xs.length : Int), (ds.length : Int)] := by
              rw [he.1, he.2.1, he.2.2]
            simp only [go_sem, ↓reduceIte, Nat.reduceEqDiff, Nat.reduceLeDiff, Nat.reduceAdd, Nat.reduceMul, Nat.reduceSub, Nat.reduceBEq, Nat.reduceGT, Nat.reduceLT, Int.reduceLE, Int.reduceLT, Int.reduceNeg, reduceCtorEq, hq, hsz, ne_eq, not_true_eq_false, decide_false, d0, d1', d2', Option.bind_some]
            obtain ⟨c6, hc6, hs6⟩ := r6
            refine ⟨rfl, hcan_of hc6 (by omega), ?_⟩
            simp only [loadV, ty28]
            refine ⟨_, hgets_put hc6 (by simp [hs6]) rfl, hx9.hput (Nat.le_refl _), ?_⟩
            rw [hsp, if_pos ⟨hm, he⟩]
            refine ⟨_, _, rfl, ((ho5.ext hx8).keepT fun b c fr hb => hput_other _ _ _ _ ?_).mono ?_, ((hob5.ext hx8).keepT fun b c fr hb => hput_other _ _ _ _ ?_).mono ?_⟩
            · rintro rfl
              rw [hc6] at hb
              cases hb
            · simp; omega
            · rintro rfl
              rw [hc6] at hb
              cases hb
            · have := hxc.size
              omega
          · have hq : ([be head 0, be head 4, be head 8, be head 12] : List Int) ≠ [id, be head 4, (xs.length : Int), (ds.length : Int)] := by
              intro h
              simp only [List.cons.injEq, and_true] at h
              exact he ⟨h.1, h.2.2.1, h.2.2.2⟩
            simp only [go_sem, ↓reduceIte, Nat.reduceEqDiff, Nat.reduceLeDiff, Nat.reduceAdd, Nat.reduceMul, Nat.reduceSub, Nat.reduceBEq, Nat.reduceGT, Nat.reduceLT, Int.reduceLE, Int.reduceLT, Int.reduceNeg, reduceCtorEq, hq, hsz, ne_eq, not_false_eq_true, decide_true]
            exact ⟨rfl, bad r6 hx9 (by rw [hsp, if_neg]; rintro ⟨_, h⟩; exact he h)⟩
  · have hn0 : nums head 0 = #[.int .i64 0, .int .i64 0, .int .i64 0, .int .i64 0] := rfl
    simp only [h16, if_false, hn0]
    simp only [go_sem, ↓reduceIte, Nat.reduceEqDiff, Nat.reduceLeDiff, Nat.reduceAdd, Nat.reduceMul, Nat.reduceSub, Nat.reduceBEq, Nat.reduceGT, Nat.reduceLT, Int.reduceLE, Int.reduceLT, Int.reduceNeg, reduceCtorEq, hput_push, hcan_push, List.all_cons, List.all_nil, Value.oneCell']
    exact bad (r1p _) (hxa.trans ((Ext.push _).mono hxa.size)) (by unfold decS; rw [if_neg (by omega)])
end Go.Proofs.YtbdclcdoiabapaaDoor
