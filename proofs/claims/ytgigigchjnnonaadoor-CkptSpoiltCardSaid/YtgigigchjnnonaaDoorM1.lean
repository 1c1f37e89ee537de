/- ckpt.Decode answers what decS says, for any head and payloads, and leaves all that there was. DERIVED: THE SHELF's CONTRACTS AT THIS DUMP, IN PLAIN WORDS (tools/lay-plain.mjs out of 'TrydShelf.lean', which tools/lay-shelf.mjs wrote): THE SAME DECLARATIONS UNDER THE SAME NAMES: 'import', 'namespace', 'open', 'def', 'theorem' AND NOTHING ELSE: no command of the shelf's: FOR A HAND-IN. Each laying: the table of numbers ('.._ren') and one theorem, a field a fact of the dump's own or the kernel's comparison; each contract: ONE APPLICATION. The name of a generation, by the library contract of strconv.Itoa; both packages name alike. The rows of a seat with tied tables: arguments opened, the tables, bounds. The reference reading of estimates: numbers off the payloads until there are enough; whatever the payloads hold. The chapter example of the checkpoints answers true wherever the table of powers of ten lies as it was laid. The reference decoder of checkpoints answers what rdecS says, for any head and payloads, and leaves all that there was. Plain laws of the number forms and of the checkpoints: what is read back is what was put, and what is taken is what is put. Plain laws of the checkpoints: both decoders answer alike; there and back; what is taken is what is encoded. Files written where nothing fails: plainly. A file of frames, read. -/
import Derived.Test.YtgigigchjnnonaaDoorVCmp
import Derived.Shelf.Strconv.Itoa0
import Derived.Shelf.Strconv.Itoa1
import Derived.Shelf.LaysM
import Derived.Shelf.Strconv.Itoa2
import Derived.Shelf.Strconv.Itoa3
import Derived.Test.YtgigigchjnnonaaDoorProg
import Derived.Lib.ItoaLen
import Derived.Test.YtgigigchjnnonaaDoorVCard
import Derived.Test.YtgigigchjnnonaaDoorVCrc
import Derived.Test.YtgigigchjnnonaaDoorCards
import Derived.Test.YtgigigchjnnonaaDoorTie
import Derived.Stop.LaidErr
import Derived.MakeChecks
import Derived.LaidMore
import Derived.Test.YtgigigchjnnonaaDoorVHlp9
set_option linter.unusedSimpArgs false
set_option linter.unusedVariables false
set_option maxRecDepth 20000
namespace Go.Proofs.YtgigigchjnnonaaDoor
open Go Go.V
-- 22: pith/ckpt.Decode
-- 41: pith/ckpt.read
-- 42: pith/ckpt.bounds
-- 43: pith/ckpt.dirty
-- 38: pith/ckpt.may
-- 5: uint8
-- 42: []uint8
-- 49: [][]uint8
-- 4: bool
-- 3: int
-- 28: pith/api.Check
-- 89: pith/ckpt.numbers

/-- What Decode answers. -/
def decS (id : Int) (head : List Int) (data : List (List Int)) : Option (Int × List Int × List Bool) :=
  if head.length = 16 ∧ be head 8 ≤ 16777216 ∧ be head 8 ≤ data.length * 200 ∧ be head 12 ≤ 1000 then
    match bspec (be head 8).toNat data with
    | none => none
    | some (xs, l) => match dspec (be head 12).toNat l with
      | none => none
      | some ds => if mayC id (be head 4) xs ds = true ∧ be head 0 = id ∧ be head 8 = xs.length ∧ be head 12 = ds.length then some (be head 4, xs, ds) else none
  else none
theorem be_lt {xs : List Int} (hw : Byt xs) {i : Nat} (h : i + 3 < xs.length) : 0 ≤ be xs i ∧ be xs i < 4294967296 := by
  have h0 := hw _ (mem_getD (xs := xs) (i := i) (by omega) 0)
  have h1 := hw _ (mem_getD (xs := xs) (i := i + 1) (by omega) 0)
  have h2 := hw _ (mem_getD (xs := xs) (i := i + 2) (by omega) 0)
  have h3 := hw _ (mem_getD (xs := xs) (i := i + 3) (by omega) 0)
  unfold be
  omega

def decR (H : Heap) (o : Option (Int × List Int × List Bool)) (r : Value) (H' : Heap) : Prop := Ext H H' ∧ match o with
  | none => r = .tuple #[.agg #[.int .i64 0, .slice none 0 0, .slice none 0 0], .int .i64 90]
  | some (p, xs, ds) => ∃ a b, r = .tuple #[.agg #[.int .i64 p, a, b], .int .i64 0] ∧ V.Own H' H.size 3 1 a (xs.map (.int .i64)) ∧ V.Own H' H.size 4 1 b (ds.map .bool)

set_option maxHeartbeats 1600000 in
set_option maxRecDepth 20000 in
theorem F22 (id : Int) (vh vd : Value) (head : List Int) (data : List (List Int)) (H : Heap) (hh : Ints H 5 .u8 vh head) (hw : Byt head) (hd : Lists H 42 5 vd data) (hb : ∀ xs ∈ data, Byt xs ∧ xs.length ≤ 140737488350000) (hl : data.length ≤ 1000000000) :
    Fun Tryd.prog 22 #[.int .i64 id, vh, vd] H (decR H (decS id head data)) := by
  obtain ⟨d1, d2, rfl⟩ := hd.form
  refine fun_of mixed (args := [_, _, _]) Tryd.func22 Tryd.ntmps22 b22 r22 rfl ?_
  have bad : ∀ {H' : Heap}, (∃ c, H'[H.size]? = some (.cells c 28) ∧ c.size = 3) → Ext H H' → decS id head data = none →
      hcan H' H.size 0 3 ∧ loadV (tyOf Tryd.prog) 28 (.pointer (some ⟨H.size, 0, none⟩)) (hput H' H.size 0 [.int .i64 0, .slice none 0 0, .slice none 0 0]) fun v =>
        decR H (decS id head data) (.tuple #[v, .int .i64 90]) (hput H' H.size 0 [.int .i64 0, .slice none 0 0, .slice none 0 0]) := by
    rintro H' ⟨c, hc, hs⟩ hx hn
    refine ⟨hcan_of hc (by omega), ?_⟩
    rw [hn]
    simp only [loadV, ty28]
    exact ⟨_, hgets_put hc (by simp [hs]) rfl, hx.hput (Nat.le_refl _), rfl⟩
  simp only [go_sem, ↓reduceIte, Nat.reduceEqDiff, Nat.reduceLeDiff, Nat.reduceAdd, Nat.reduceMul, Nat.reduceSub, Nat.reduceBEq, Nat.reduceGT, Nat.reduceLT, Int.reduceLE, Int.reduceLT, Int.reduceNeg, reduceCtorEq]
  refine FunI.by (F41 vh head _ (hh.ext (Ext.push _)) hw) ?_
  rintro _ H1 ⟨hx1, rfl⟩
  have r1 : ∃ c, H1[H.size]? = some (.cells c 28) ∧ c.size = 3 := ⟨_, (hx1.get _ (by simp)).trans push_new, rfl⟩
  have hxa : Ext H H1 := (Ext.push _).trans (hx1.mono (by simp))
  have hs1 : H.size < H1.size := by have := hx1.size; simp at this; omega
  have r1p : ∀ x : Obj, ∃ c, (H1.push x)[H.size]? = some (.cells c 28) ∧ c.size = 3 := fun x => by obtain ⟨c, h1, h2⟩ := r1; exact ⟨c, (push_old hs1).trans h1, h2⟩
  by_cases h16 : head.length = 16
  · have hn4 : nums head 4 = #[.int .i64 (be head 0), .int .i64 (be head 4), .int .i64 (be head 8), .int .i64 (be head 12)] := rfl
    simp only [h16, if_true, hn4]
    have t2 : Int.toNat 2 = 2 := rfl
    have t3 : Int.toNat 3 = 3 := rfl
    have b0 := be_lt hw (i := 0) (by omega)
    have b1 := be_lt hw (i := 4) (by omega)
    have b2 := be_lt hw (i := 8) (by omega)
    have b3 := be_lt hw (i := 12) (by omega)
    have w1 : IntKind.i64.wrap ((data.length : Int) * 200) = (data.length : Int) * 200 := w64_id (by omega) (by omega)
    by_cases c1 : 16777216 < be head 8
    · simp only [go_sem, ↓reduceIte, Nat.reduceEqDiff, Nat.reduceLeDiff, Nat.reduceAdd, Nat.reduceMul, Nat.reduceSub, Nat.reduceBEq, Nat.reduceGT, Nat.reduceLT, Int.reduceLE, Int.reduceLT, Int.reduceNeg, reduceCtorEq, hput_push, hcan_push, List.all_cons, List.all_nil, Value.oneCell', t2, t3, Int.toNat_one, c1]
      exact ⟨by decide, bad (r1p _) (hxa.trans ((Ext.push _).mono hxa.size)) (by unfold decS; rw [if_neg (by omega)])⟩
    by_cases c2 : (data.length : Int) * 200 < be head 8
    · simp only [go_sem, ↓reduceIte, Nat.reduceEqDiff, Nat.reduceLeDiff, Nat.reduceAdd, Nat.reduceMul, Nat.reduceSub, Nat.reduceBEq, Nat.reduceGT, Nat.reduceLT, Int.reduceLE, Int.reduceLT, Int.reduceNeg, reduceCtorEq, hput_push, hcan_push, List.all_cons, List.all_nil, Value.oneCell', t2, t3, Int.toNat_one, c1, c2, w1]
      exact ⟨by decide, by decide, bad (r1p _) (hxa.trans ((Ext.push _).mono hxa.size)) (by unfold decS; rw [if_neg (by omega)])⟩
    by_cases c3 : 1000 < be head 12
    · simp only [go_sem, ↓reduceIte, Nat.reduceEqDiff, Nat.reduceLeDiff, Nat.reduceAdd, Nat.reduceMul, Nat.reduceSub, Nat.reduceBEq, Nat.reduceGT, Nat.reduceLT, Int.reduceLE, Int.reduceLT, Int.reduceNeg, reduceCtorEq, hput_push, hcan_push, List.all_cons, List.all_nil, Value.oneCell', t2, t3, Int.toNat_one, c1, c2, c3, w1]
      exact ⟨by decide, by decide, by decide, bad (r1p _) (hxa.trans ((Ext.push _).mono hxa.size)) (by unfold decS; rw [if_neg (by omega)])⟩
    simp only [go_sem, ↓reduceIte, Nat.reduceEqDiff, Nat.reduceLeDiff, Nat.reduceAdd, Nat.reduceMul, Nat.reduceSub, Nat.reduceBEq, Nat.reduceGT, Nat.reduceLT, Int.reduceLE, Int.reduceLT, Int.reduceNeg, reduceCtorEq, hput_push, hcan_push, List.all_cons, List.all_nil, Value.oneCell', t2, t3, Int.toNat_one, c1, c2, c3, w1]
    refine ⟨by decide, by decide, by decide, by decide, by decide, ?_⟩
    have hsp : decS id head data = match bspec (be head 8).toNat data with
      | none => none
      | some (xs, l) => match dspec (be head 12).toNat l with
        | none => none
        | some ds => if mayC id (be head 4) xs ds = true ∧ be head 0 = id ∧ be head 8 = xs.length ∧ be head 12 = ds.length then some (be head 4, xs, ds) else none := by
      unfold decS
      rw [if_pos ⟨h16, by omega, by omega, by omega⟩]
    have hx2 : Ext H1 ((H1.push (Obj.cells #[.int .i64 (be head 0), .int .i64 (be head 4), .int .i64 (be head 8), .int .i64 (be head 12)] 89)).push (Obj.cells #[.int .i64 (be head 4), .slice none 0 0, .slice none 0 0] 28)) := (Ext.push _).trans ((Ext.push _).mono (by simp))
    refine FunI.by (F42 (be head 8) _ data H _ hd (hxa.trans (hx2.mono hxa.size)) hb b2.1 (by omega)) ?_
    rintro r H2 ⟨hx3, hr⟩
    have hx4 : Ext H1 H2 := hx2.trans (hx3.mono hx2.size)
    have kN : H2[H1.size]? = some (Obj.cells #[.int .i64 (be head 0), .int .i64 (be head 4), .int .i64 (be head 8), .int .i64 (be head 12)] 89) := by
      rw [hx3.get _ (by simp; omega), push_old (by simp)]
      exact push_new
    have kC : H2[H1.size + 1]? = some (Obj.cells #[.int .i64 (be head 4), .slice none 0 0, .slice none 0 0] 28) := by
      rw [hx3.get _ (by simp)]
      rw [show H1.size + 1 = (H1.push (Obj.cells #[.int .i64 (be head 0), .int .i64 (be head 4), .int .i64 (be head 8), .int .i64 (be head 12)] 89)).size by simp]
      exact push_new
    have hsz : (H1.push (Obj.cells #[Value.int .i64 (be head 0), .int .i64 (be head 4), .int .i64 (be head 8), .int .i64 (be head 12)] 89)).size = H1.size + 1 := by simp
    have r2 : ∀ vs, ∃ c, (hput H2 (H1.size + 1) 1 vs)[H.size]? = some (.cells c 28) ∧ c.size = 3 := fun vs => by
      obtain ⟨c, h1, h2⟩ := r1
      exact ⟨c, by rw [hput_other _ _ _ _ (by omega), hx4.get _ hs1]; exact h1, h2⟩
    have hxb : Ext H H2 := hxa.trans (hx4.mono hxa.size)
    cases hbs : bspec (be head 8).toNat data with
    | none =>
      rw [hbs] at hr hsp
      subst hr
      simp only [go_sem, ↓reduceIte, Nat.reduceEqDiff, Nat.reduceLeDiff, Nat.reduceAdd, Nat.reduceMul, Nat.reduceSub, Nat.reduceBEq, Nat.reduceGT, Nat.reduceLT, Int.reduceLE, Int.reduceLT, Int.reduceNeg, reduceCtorEq, hsz]
      exact ⟨rfl, hcan_of kC (by simp), rfl, bad (r2 _) (hxb.hput (by omega)) hsp⟩
    | some q =>
      obtain ⟨xs, l⟩ := q
      rw [hbs] at hr hsp
      obtain ⟨va, vl, rfl, hova, hlvl, hlin⟩ := hr
      obtain ⟨v1, v2, rfl⟩ := (show Ints H2 3 .i64 va xs from hova.sl).form
      have k3 : hget (hput H2 (H1.size + 1) 1 [.slice v1 xs.length v2]) H1.size 3 = some (.int .i64 (be head 12)) := by
        unfold hget
        rw [hput_other _ _ _ _ (by omega), kN]
        rfl
      simp only [go_sem, ↓reduceIte, Nat.reduceEqDiff, Nat.reduceLeDiff, Nat.reduceAdd, Nat.reduceMul, Nat.reduceSub, Nat.reduceBEq, Nat.reduceGT, Nat.reduceLT, Int.reduceLE, Int.reduceLT, Int.reduceNeg, reduceCtorEq, hsz, t3, k3]
      refine ⟨rfl, hcan_of kC (by simp), by decide, ?_⟩
      have kC3 : (hput H2 (H1.size + 1) 1 [.slice v1 xs.length v2])[H1.size + 1]? = some (Obj.cells #[.int .i64 (be head 4), .slice v1 xs.length v2, .slice none 0 0] 28) := hput_same kC
      have kN3 : (hput H2 (H1.size + 1) 1 [.slice v1 xs.length v2])[H1.size]? = _ := (hput_other _ _ _ _ (by omega)).trans kN
      have hl3 : Lists (hput H2 (H1.size + 1) 1 [.slice v1 xs.length v2]) 42 5 vl l := hlvl.ext (hxb.hput (by omega))
      have hi3 : V.Own (hput H2 (H1.size + 1) 1 [.slice v1 xs.length v2]) _ 3 1 (.slice v1 xs.length v2) (xs.map (.int .i64)) := hova.keepT fun b c fr hb => hput_other _ _ _ _ (by
        rintro rfl
        rw [kC] at hb
        cases hb)
      have hxc : Ext H (hput H2 (H1.size + 1) 1 [.slice v1 xs.length v2]) := hxb.hput (by omega)
      have r3 := r2 [.slice v1 xs.length v2]
      generalize hput H2 (H1.size + 1) 1 [.slice v1 xs.length v2] = H3 at *
      refine FunI.by (F43 (be head 12) vl l H3 hl3 (fun y hy => hb y (hlin y hy)) b3.1 (by omega)) ?_
      rintro r H4 ⟨hx5, hr⟩
      have hx6 : Ext H H4 := hxc.trans (hx5.mono hxc.size)
      have kC4 := (hx5.get (H1.size + 1) (Array.getElem?_eq_some_iff.1 kC3).1).trans kC3
      have kN4 := (hx5.get H1.size (Array.getElem?_eq_some_iff.1 kN3).1).trans kN3
      have r4 : ∀ vs, ∃ c, (hput H4 (H1.size + 1) 2 vs)[H.size]? = some (.cells c 28) ∧ c.size = 3 := fun vs => by
        obtain ⟨c, h1, h2⟩ := r3
        exact ⟨c, by rw [hput_other _ _ _ _ (by omega), hx5.get _ (Array.getElem?_eq_some_iff.1 h1).1]; exact h1, h2⟩
      cases hds : dspec (be head 12).toNat l with
      | none =>
        rw [hds] at hr
        simp only [hds] at hsp
        subst hr
        simp only [go_sem, ↓reduceIte, Nat.reduceEqDiff, Nat.reduceLeDiff, Nat.reduceAdd, Nat.reduceMul, Nat.reduceSub, Nat.reduceBEq, Nat.reduceGT, Nat.reduceLT, Int.reduceLE, Int.reduceLT, Int.reduceNeg, reduceCtorEq, hsz]
        exact ⟨rfl, hcan_of kC4 (by simp), rfl, bad (r4 _) (hx6.hput (by omega)) hsp⟩
      | some ds =>
        rw [hds] at hr
        simp only [hds] at hsp
        obtain ⟨vb, rfl, hob⟩ := hr
        obtain ⟨y1, y2, rfl⟩ := (show Bls H4 4 vb ds from hob.sl).form
        have kC5 : (hput H4 (H1.size + 1) 2 [.slice y1 ds.length y2])[H1.size + 1]? = some (Obj.cells #[.int .i64 (be head 4), .slice v1 xs.length v2, .slice y1 ds.length y2] 28) := hput_same kC4
        have kN5 : (hput H4 (H1.size + 1) 2 [.slice y1 ds.length y2])[H1.size]? = _ := (hput_other _ _ _ _ (by omega)).trans kN4
        have ho5 : V.Own (hput H4 (H1.size + 1) 2 [.slice y1 ds.length y2]) _ 3 1 (.slice v1 xs.length v2) (xs.map (.int .i64)) := (hi3.ext hx5).keepT fun b c fr hb => hput_other _ _ _ _ (by
          rintro rfl
          rw [kC4] at hb
          cases hb)
        have hob5 : V.Own (hput H4 (H1.size + 1) 2 [.slice y1 ds.length y2]) _ 4 1 (.slice y1 ds.length y2) (ds.map .bool) := hob.keepT fun b c fr hb => hput_other _ _ _ _ (by
          rintro rfl
          rw [kC4] at hb
          cases hb)
        have hi5 : Ints (hput H4 (H1.size + 1) 2 [.slice y1 ds.length y2]) 3 .i64 (.slice v1 xs.length v2) xs := ho5.sl
        have hb5 : Bls (hput H4 (H1.size + 1) 2 [.slice y1 ds.length y2]) 4 (.slice y1 ds.length y2) ds := hob5.sl
        have r5 := r4 [.slice y1 ds.length y2]
        have hx7 : Ext H (hput H4 (H1.size + 1) 2 [.slice y1 ds.length y2]) := hx6.hput (by omega)
        have c0 : hget (hput H4 (H1.size + 1) 2 [.slice y1 ds.length y2]) (H1.size + 1) 0 = some (.int .i64 (be head 4)) := by unfold hget; rw [kC5]; rfl
        have c1' : hget (hput H4 (H1.size + 1) 2 [.slice y1 ds.length y2]) (H1.size + 1) 1 = some (.slice v1 xs.length v2) := by unfold hget; rw [kC5]; rfl
        have c2' : hget (hput H4 (H1.size + 1) 2 [.slice y1 ds.length y2]) (H1.size + 1) 2 = some (.slice y1 ds.length y2) := by unfold hget; rw [kC5]; rfl
        simp only [go_sem, ↓reduceIte, Nat.reduceEqDiff, Nat.reduceLeDiff, Nat.reduceAdd, Nat.reduceMul, Nat.reduceSub, Nat.reduceBEq, Nat.reduceGT, Nat.reduceLT, Int.reduceLE, Int.reduceLT, Int.reduceNeg, reduceCtorEq, hsz, c0, c1', c2']
        refine ⟨rfl, hcan_of kC4 (by simp), ?_⟩
        refine FunI.by (F38 _ id (be head 4) xs ds _ ⟨_, _, rfl, hi5, hb5⟩) ?_
        rintro _ H6 ⟨rfl, hx8⟩
        have kC6 := (hx8.get (H1.size + 1) (Array.getElem?_eq_some_iff.1 kC5).1).trans kC5
        have kN6 := (hx8.get H1.size (Array.getElem?_eq_some_iff.1 kN5).1).trans kN5
        have r6 : ∃ c, H6[H.size]? = some (.cells c 28) ∧ c.size = 3 := by
          obtain ⟨c, h1, h2⟩ := r5
          exact ⟨c, by rw [hx8.get _ (Array.getElem?_eq_some_iff.1 h1).1]; exact h1, h2⟩
        have hx9 : Ext H H6 := hx7.trans (hx8.mono hx7.size)
        cases hm : mayC id (be head 4) xs ds with
        | false =>
          simp only [go_sem, ↓reduceIte, Nat.reduceEqDiff, Nat.reduceLeDiff, Nat.reduceAdd, Nat.reduceMul, Nat.reduceSub, Nat.reduceBEq, Nat.reduceGT, Nat.reduceLT, Int.reduceLE, Int.reduceLT, Int.reduceNeg, reduceCtorEq, hsz]
          exact ⟨rfl, bad r6 hx9 (by rw [hsp, if_neg]; rintro ⟨h, _⟩; rw [hm] at h; cases h)⟩
        | true =>
          have d0 : hget H6 (H1.size + 1) 0 = some (.int .i64 (be head 4)) := by unfold hget; rw [kC6]; rfl
          have d1' : hget H6 (H1.size + 1) 1 = some (.slice v1 xs.length v2) := by unfold hget; rw [kC6]; rfl
          have d2' : hget H6 (H1.size + 1) 2 = some (.slice y1 ds.length y2) := by unfold hget; rw [kC6]; rfl
          have n0 : hget H6 H1.size 0 = some (.int .i64 (be head 0)) := by unfold hget; rw [kN6]; rfl
          have n1 : hget H6 H1.size 1 = some (.int .i64 (be head 4)) := by unfold hget; rw [kN6]; rfl
          have n2 : hget H6 H1.size 2 = some (.int .i64 (be head 8)) := by unfold hget; rw [kN6]; rfl
          have n3 : hget H6 H1.size 3 = some (.int .i64 (be head 12)) := by unfold hget; rw [kN6]; rfl
          simp only [go_sem, ↓reduceIte, Nat.reduceEqDiff, Nat.reduceLeDiff, Nat.reduceAdd, Nat.reduceMul, Nat.reduceSub, Nat.reduceBEq, Nat.reduceGT, Nat.reduceLT, Int.reduceLE, Int.reduceLT, Int.reduceNeg, reduceCtorEq, hsz, d0, d1', d2', n0, n1, n2, n3]
          refine RunI.by (ne_numbers (.tmp 71) (.tmp 81) [be head 0, be head 4, be head 8, be head 12] [id, be head 4, (xs.length : Int), (ds.length : Int)] H6 rfl rfl) ?_
          rintro _ _ ⟨rfl, rfl⟩
          by_cases he : be head 0 = id ∧ be head 8 = xs.length ∧ be head 12 = ds.length
          · have hq : ([be head 0, be head 4, be head 8, be head 12] : List Int) = [id, be head 4, (xs.length : Int), (ds.length : Int)] := by
              rw [he.1, he.2.1, he.2.2]
            simp only [go_sem, ↓reduceIte, Nat.reduceEqDiff, Nat.reduceLeDiff, Nat.reduceAdd, Nat.reduceMul, Nat.reduceSub, Nat.reduceBEq, Nat.reduceGT, Nat.reduceLT, Int.reduceLE, Int.reduceLT, Int.reduceNeg, reduceCtorEq, hq, hsz, ne_eq, not_true_eq_false, decide_false, d0, d1', d2', Option.bind_some]
            obtain ⟨c6, hc6, hs6⟩ := r6
            refine ⟨rfl, hcan_of hc6 (by omega), ?_⟩
            simp only [loadV, ty28]
            refine ⟨_, hgets_put hc6 (by simp [hs6]) rfl, hx9.hput (Nat.le_refl _), ?_⟩
            rw [hsp, if_pos ⟨hm, he⟩]
            refine ⟨_, _, rfl, ((ho5.ext hx8).keepT fun b c fr hb => hput_other _ _ _ _ ?_).mono ?_, ((hob5.ext hx8).keepT fun b c fr hb => hput_other _ _ _ _ ?_).mono ?_⟩
            · rintro rfl
              rw [hc6] at hb
              cases hb
            · simp; omega
            · rintro rfl
              rw [hc6] at hb
              cases hb
            · have := hxc.size
              omega
          · have hq : ([be head 0, be head 4, be head 8, be head 12] : List Int) ≠ [id, be head 4, (xs.length : Int), (ds.length : Int)] := by
              intro h
              simp only [List.cons.injEq, and_true] at h
              exact he ⟨h.1, h.2.2.1, h.2.2.2⟩
            simp only [go_sem, ↓reduceIte, Nat.reduceEqDiff, Nat.reduceLeDiff, Nat.reduceAdd, Nat.reduceMul, Nat.reduceSub, Nat.reduceBEq, Nat.reduceGT, Nat.reduceLT, Int.reduceLE, Int.reduceLT, Int.reduceNeg, reduceCtorEq, hq, hsz, ne_eq, not_false_eq_true, decide_true]
            exact ⟨rfl, bad r6 hx9 (by rw [hsp, if_neg]; rintro ⟨_, h⟩; exact he h)⟩
  · have hn0 : nums head 0 = #[.int .i64 0, .int .i64 0, .int .i64 0, .int .i64 0] := rfl
    simp only [h16, if_false, hn0]
    simp only [go_sem, ↓reduceIte, Nat.reduceEqDiff, Nat.reduceLeDiff, Nat.reduceAdd, Nat.reduceMul, Nat.reduceSub, Nat.reduceBEq, Nat.reduceGT, Nat.reduceLT, Int.reduceLE, Int.reduceLT, Int.reduceNeg, reduceCtorEq, hput_push, hcan_push, List.all_cons, List.all_nil, Value.oneCell']
    exact bad (r1p _) (hxa.trans ((Ext.push _).mono hxa.size)) (by unfold decS; rw [if_neg (by omega)])
end Go.Proofs.YtgigigchjnnonaaDoor
namespace Go.Proofs
open Go.Shelf
def Tryd.lays129_ren : Go.Shelf.Ren := ⟨fun | 129 => 89 | n => n, fun | 53 => 144 | 3 => 3 | 4 => 4 | 46 => 47 | 5 => 5 | 9 => 9 | n => n, fun | n => n⟩
theorem Tryd.lays129 : Go.Proofs.Lays.n129 Tryd.prog Tryd.lays129_ren := {
  mixed := by kernel_rfl
  f129 := Tryd.func89.trans (congrArg some (by kernel_rfl))
  t3 := Tryd.underlying3
  a3 := Tryd.isAgg3
  z3 := Tryd.sizeOf3
  v3 := Tryd.zeroValue3
  t4 := Tryd.underlying4
  a4 := Tryd.isAgg4
  z4 := Tryd.sizeOf4
  v4 := Tryd.zeroValue4
  t5 := Tryd.underlying5
  a5 := Tryd.isAgg5
  z5 := Tryd.sizeOf5
  v5 := Tryd.zeroValue5
  t9 := Tryd.underlying9
  a9 := Tryd.isAgg9
  z9 := Tryd.sizeOf9
  v9 := Tryd.zeroValue9
  t46 := Tryd.underlying47
  a46 := Tryd.isAgg47
  z46 := Tryd.sizeOf47
  v46 := Tryd.zeroValue47
  t53 := Tryd.underlying144
  a53 := Tryd.isAgg144
  z53 := Tryd.sizeOf144
  v53 := Tryd.zeroValue144 }
/-- bits.Len64: "Len64 returns the minimum number of bits required to represent x; the result is 0 for x == 0.": IT RETURNS 'Lib.bitLen x'; the world is as it was. ('h0', 'h1': x is a uint64.) (LAID: no walk: one application.) -/
theorem Tryd.bits_Len64 (x : Int) (w : World) (h0 : 0 ≤ x) (h1 : x ≤ 18446744073709551615) :
    Calls Tryd.prog 89 #[.int .u64 x] w fun e w' => e = .returned (.int .i64 (Lib.bitLen x.toNat)) ∧ w' = w := Any.bits_Len64 Tryd.lays129 x w h0 h1
def Tryd.lays317_ren : Go.Shelf.Ren := ⟨fun | 317 => 88 | n => n, fun | 3 => 3 | 46 => 47 | n => n, fun | n => n⟩
theorem Tryd.lays317 : Go.Proofs.Lays.n317 Tryd.prog Tryd.lays317_ren := {
  mixed := by kernel_rfl
  f317 := Tryd.func88.trans (congrArg some (by kernel_rfl))
  t3 := Tryd.underlying3
  a3 := Tryd.isAgg3
  z3 := Tryd.sizeOf3
  v3 := Tryd.zeroValue3
  t46 := Tryd.underlying47
  a46 := Tryd.isAgg47
  z46 := Tryd.sizeOf47
  v46 := Tryd.zeroValue47 }
open Go.Lib in
/-- internal/strconv.log10Pow2: "log10Pow2(x) returns ⌊log₁₀ 2**x⌋ = ⌊x * log₁₀ 2⌋.": '(x * 78913) >> 18', at an x up to 64 (a length in bits). The world is as it was. (LAID: no walk: one application.) -/
theorem Tryd.internal_strconv_log10Pow2 (x : Nat) (h : x ≤ 64) (w : World) :
    Calls Tryd.prog 88 #[.int .i64 x] w fun e w' => e = .returned (.int .i64 (Lib.l10 x)) ∧ w' = w := Any.internal_strconv_log10Pow2 Tryd.lays317 x h w
def Tryd.lays318_ren : Go.Shelf.Ren := ⟨fun | 318 => 90 | n => n, fun | 3 => 3 | 4 => 4 | n => n, fun | n => n⟩
theorem Tryd.lays318 : Go.Proofs.Lays.n318 Tryd.prog Tryd.lays318_ren := {
  mixed := by kernel_rfl
  f318 := Tryd.func90.trans (congrArg some (by kernel_rfl))
  t3 := Tryd.underlying3
  a3 := Tryd.isAgg3
  z3 := Tryd.sizeOf3
  v3 := Tryd.zeroValue3
  t4 := Tryd.underlying4
  a4 := Tryd.isAgg4
  z4 := Tryd.sizeOf4
  v4 := Tryd.zeroValue4 }
open Go.Lib in
/-- internal/strconv.bool2: "bool2 converts b to an integer: 1 for true, 0 for false." The world is as it was. (LAID: no walk: one application.) -/
theorem Tryd.internal_strconv_bool2_int (b : Bool) (w : World) :
    Calls Tryd.prog 90 #[.bool b] w fun e w' => e = .returned (.int .i64 (if b then 1 else 0)) ∧ w' = w := Any.internal_strconv_bool2_int Tryd.lays318 b w
def Tryd.lays283_ren : Go.Shelf.Ren := ⟨fun | 283 => 82 | n => n, fun | 3 => 3 | 9 => 9 | 4 => 4 | n => n, fun | n => n⟩
theorem Tryd.lays283 : Go.Proofs.Lays.n283 Tryd.prog Tryd.lays283_ren := {
  mixed := by kernel_rfl
  f283 := Tryd.func82.trans (congrArg some (by kernel_rfl))
  t3 := Tryd.underlying3
  a3 := Tryd.isAgg3
  z3 := Tryd.sizeOf3
  v3 := Tryd.zeroValue3
  t4 := Tryd.underlying4
  a4 := Tryd.isAgg4
  z4 := Tryd.sizeOf4
  v4 := Tryd.zeroValue4
  t9 := Tryd.underlying9
  a9 := Tryd.isAgg9
  z9 := Tryd.sizeOf9
  v9 := Tryd.zeroValue9 }
open Go.Lib in
/-- internal/strconv.small: "small returns the string for an i with 0 <= i < nSmalls.": i's decimal numeral. The world is as it was. (LAID: no walk: one application.) -/
theorem Tryd.internal_strconv_small (i : Nat) (h : i < 100) (w : World) :
    Calls Tryd.prog 82 #[.int .i64 i] w fun e w' => e = .returned (.string ⟨(Lib.decDigits i).toArray⟩) ∧ w' = w := Any.internal_strconv_small Tryd.lays283 i h w
def Tryd.laysM284_ren : Go.Shelf.Ren := ⟨fun | 284 => 83 | 129 => 89 | 317 => 88 | 318 => 90 | n => n, fun | 53 => 144 | 3 => 3 | 212 => 153 | 0 => 0 | 4 => 4 | 46 => 47 | 5 => 5 | 9 => 9 | n => n, fun | 17 => 1 | n => n⟩
theorem Tryd.laysM284 : Go.Proofs.LaysM.n284 Tryd.prog Tryd.laysM284_ren := {
  mixed := by kernel_rfl
  f129 := Tryd.func89.trans (congrArg some (by kernel_rfl))
  f284 := Tryd.func83.trans (congrArg some (by kernel_rfl))
  f317 := Tryd.func88.trans (congrArg some (by kernel_rfl))
  f318 := Tryd.func90.trans (congrArg some (by kernel_rfl))
  t0 := Tryd.underlying0
  a0 := Tryd.isAgg0
  z0 := Tryd.sizeOf0
  v0 := Tryd.zeroValue0
  t3 := Tryd.underlying3
  a3 := Tryd.isAgg3
  z3 := Tryd.sizeOf3
  v3 := Tryd.zeroValue3
  t4 := Tryd.underlying4
  a4 := Tryd.isAgg4
  z4 := Tryd.sizeOf4
  v4 := Tryd.zeroValue4
  t5 := Tryd.underlying5
  a5 := Tryd.isAgg5
  z5 := Tryd.sizeOf5
  v5 := Tryd.zeroValue5
  t9 := Tryd.underlying9
  a9 := Tryd.isAgg9
  z9 := Tryd.sizeOf9
  v9 := Tryd.zeroValue9
  t46 := Tryd.underlying47
  a46 := Tryd.isAgg47
  z46 := Tryd.sizeOf47
  v46 := Tryd.zeroValue47
  t53 := Tryd.underlying144
  a53 := Tryd.isAgg144
  z53 := Tryd.sizeOf144
  v53 := Tryd.zeroValue144
  t212 := Tryd.underlying153
  a212 := Tryd.isAgg153
  z212 := Tryd.sizeOf153
  v212 := Tryd.zeroValue153
  g17 := by kernel_rfl
  i0 := by kernel_rfl
  i3 := by kernel_rfl
  i4 := by kernel_rfl
  i5 := by kernel_rfl
  i9 := by kernel_rfl
  i46 := by kernel_rfl
  i53 := by kernel_rfl
  i212 := by kernel_rfl
  m17 := by kernel_rfl }
open Go.Lib in
/-- internal/strconv.numDigits, at a d that is not 0: THE NUMBER OF d's DECIMAL DIGITS. The world is as it was. (LAID: no walk: one application.) -/
theorem Tryd.internal_strconv_numDigits (u : Nat) (h1 : 1 ≤ u) (h2 : u < 18446744073709551616) (w : World) (htab : Lib.TabIs Tryd.prog w "internal/strconv.uint64pow10" .u64 Lib.pow10Tab) :
    Calls Tryd.prog 83 #[.int .u64 u] w fun e w' => e = .returned (.int .i64 (Lib.nDigits u)) ∧ w' = w := Any.internal_strconv_numDigits Tryd.laysM284 u h1 h2 w htab
def Tryd.lays285_ren : Go.Shelf.Ren := ⟨fun | 285 => 84 | n => n, fun | 37 => 42 | 53 => 144 | 3 => 3 | 4 => 4 | 51 => 39 | 9 => 9 | 5 => 5 | 0 => 0 | n => n, fun | n => n⟩
theorem Tryd.lays285 : Go.Proofs.Lays.n285 Tryd.prog Tryd.lays285_ren := {
  mixed := by kernel_rfl
  f285 := Tryd.func84.trans (congrArg some (by kernel_rfl))
  t0 := Tryd.underlying0
  a0 := Tryd.isAgg0
  z0 := Tryd.sizeOf0
  v0 := Tryd.zeroValue0
  t3 := Tryd.underlying3
  a3 := Tryd.isAgg3
  z3 := Tryd.sizeOf3
  v3 := Tryd.zeroValue3
  t4 := Tryd.underlying4
  a4 := Tryd.isAgg4
  z4 := Tryd.sizeOf4
  v4 := Tryd.zeroValue4
  t5 := Tryd.underlying5
  a5 := Tryd.isAgg5
  z5 := Tryd.sizeOf5
  v5 := Tryd.zeroValue5
  t9 := Tryd.underlying9
  a9 := Tryd.isAgg9
  z9 := Tryd.sizeOf9
  v9 := Tryd.zeroValue9
  t37 := Tryd.underlying42
  a37 := Tryd.isAgg42
  z37 := Tryd.sizeOf42
  v37 := Tryd.zeroValue42
  t51 := Tryd.underlying39
  a51 := Tryd.isAgg39
  z51 := Tryd.sizeOf39
  v51 := Tryd.zeroValue39
  t53 := Tryd.underlying144
  a53 := Tryd.isAgg144
  z53 := Tryd.sizeOf144
  v53 := Tryd.zeroValue144 }
open Go.RowKit Go.Sort Go.Lib in
/-- internal/strconv.formatBase10: "formatBase10 formats the decimal representation of u into a. The caller is responsible for ensuring that a is big enough to hold u. If a is too big, leading zeros will be filled in as needed.": THE ROW HOLDS u's DIGITS ('FmtInv .. 0 ..': every place t holds 'dg u (len - 1 - t)'); all else is as it was but for the count of draws. (LAID: no walk: one application.) -/
theorem Tryd.internal_strconv_formatBase10 (blk off cap : Nat) (u : Nat) (d : Array UInt8) (w : World) (hH : Holds (fun (b : UInt8) => Value.int .u8 (b.toNat : Int)) w blk off d) (hu : u < 10 ^ d.size) (hu64 : u < 18446744073709551616) (hsz : d.size < 4611686018427387904) :
    Calls Tryd.prog 84 #[.slice (some ⟨blk, off, none⟩) d.size cap, .int .u64 u] w fun e w' =>
      e = .returned (.tuple #[]) ∧ ∃ (n v' : Nat) (dk : Array UInt8), w' = (putRow (fun (b : UInt8) => Value.int .u8 (b.toNat : Int)) w blk off dk).drewN n ∧ FmtInv d.size u 0 v' dk := Any.internal_strconv_formatBase10 Tryd.lays285 blk off cap u d w hH hu hu64 hsz
def Tryd.laysM246_ren : Go.Shelf.Ren := ⟨fun | 246 => 75 | 283 => 82 | 284 => 83 | 285 => 84 | 286 => 85 | 129 => 89 | 317 => 88 | 318 => 90 | 319 => 91 | 320 => 92 | 337 => 93 | 338 => 94 | n => n, fun | 2 => 2 | 3 => 3 | 9 => 9 | 4 => 4 | 171 => 143 | 0 => 0 | 53 => 144 | 37 => 42 | 5 => 5 | 173 => 147 | 212 => 153 | 51 => 39 | 20 => 20 | 213 => 154 | 46 => 47 | 232 => 157 | 233 => 158 | n => n, fun | 17 => 1 | 18 => 2 | 19 => 3 | n => n⟩
theorem Tryd.laysM246 : Go.Proofs.LaysM.n246 Tryd.prog Tryd.laysM246_ren := {
  mixed := by kernel_rfl
  f129 := Tryd.func89.trans (congrArg some (by kernel_rfl))
  f246 := Tryd.func75.trans (congrArg some (by kernel_rfl))
  f283 := Tryd.func82.trans (congrArg some (by kernel_rfl))
  f284 := Tryd.func83.trans (congrArg some (by kernel_rfl))
  f285 := Tryd.func84.trans (congrArg some (by kernel_rfl))
  f286 := Tryd.func85.trans (congrArg some (by kernel_rfl))
  f317 := Tryd.func88.trans (congrArg some (by kernel_rfl))
  f318 := Tryd.func90.trans (congrArg some (by kernel_rfl))
  f319 := Tryd.func91.trans (congrArg some (by kernel_rfl))
  f320 := Tryd.func92.trans (congrArg some (by kernel_rfl))
  f337 := Tryd.func93.trans (congrArg some (by kernel_rfl))
  f338 := Tryd.func94.trans (congrArg some (by kernel_rfl))
  t0 := Tryd.underlying0
  a0 := Tryd.isAgg0
  z0 := Tryd.sizeOf0
  v0 := Tryd.zeroValue0
  t2 := Tryd.underlying2
  a2 := Tryd.isAgg2
  z2 := Tryd.sizeOf2
  v2 := Tryd.zeroValue2
  t3 := Tryd.underlying3
  a3 := Tryd.isAgg3
  z3 := Tryd.sizeOf3
  v3 := Tryd.zeroValue3
  t4 := Tryd.underlying4
  a4 := Tryd.isAgg4
  z4 := Tryd.sizeOf4
  v4 := Tryd.zeroValue4
  t5 := Tryd.underlying5
  a5 := Tryd.isAgg5
  z5 := Tryd.sizeOf5
  v5 := Tryd.zeroValue5
  t9 := Tryd.underlying9
  a9 := Tryd.isAgg9
  z9 := Tryd.sizeOf9
  v9 := Tryd.zeroValue9
  t20 := Tryd.underlying20
  a20 := Tryd.isAgg20
  z20 := Tryd.sizeOf20
  v20 := Tryd.zeroValue20
  t37 := Tryd.underlying42
  a37 := Tryd.isAgg42
  z37 := Tryd.sizeOf42
  v37 := Tryd.zeroValue42
  t46 := Tryd.underlying47
  a46 := Tryd.isAgg47
  z46 := Tryd.sizeOf47
  v46 := Tryd.zeroValue47
  t51 := Tryd.underlying39
  a51 := Tryd.isAgg39
  z51 := Tryd.sizeOf39
  v51 := Tryd.zeroValue39
  t53 := Tryd.underlying144
  a53 := Tryd.isAgg144
  z53 := Tryd.sizeOf144
  v53 := Tryd.zeroValue144
  t171 := Tryd.underlying143
  a171 := Tryd.isAgg143
  z171 := Tryd.sizeOf143
  v171 := Tryd.zeroValue143
  t173 := Tryd.underlying147
  a173 := Tryd.isAgg147
  z173 := Tryd.sizeOf147
  v173 := Tryd.zeroValue147
  t212 := Tryd.underlying153
  a212 := Tryd.isAgg153
  z212 := Tryd.sizeOf153
  v212 := Tryd.zeroValue153
  t213 := Tryd.underlying154
  a213 := Tryd.isAgg154
  z213 := Tryd.sizeOf154
  t232 := Tryd.underlying157
  a232 := Tryd.isAgg157
  z232 := Tryd.sizeOf157
  v232 := Tryd.zeroValue157
  t233 := Tryd.underlying158
  a233 := Tryd.isAgg158
  z233 := Tryd.sizeOf158
  v233 := Tryd.zeroValue158
  g17 := by kernel_rfl
  g18 := by kernel_rfl
  g19 := by kernel_rfl
  i0 := by kernel_rfl
  i2 := by kernel_rfl
  i3 := by kernel_rfl
  i4 := by kernel_rfl
  i5 := by kernel_rfl
  i9 := by kernel_rfl
  i20 := by kernel_rfl
  i37 := by kernel_rfl
  i46 := by kernel_rfl
  i51 := by kernel_rfl
  i53 := by kernel_rfl
  i171 := by kernel_rfl
  i173 := by kernel_rfl
  i212 := by kernel_rfl
  i232 := by kernel_rfl
  i233 := by kernel_rfl
  m17 := by kernel_rfl
  m18 := by kernel_rfl
  m19 := by kernel_rfl }
open Go.RowKit Go.Sort Go.Lib in
/-- internal/strconv.FormatInt: "FormatInt returns the string representation of i in the given base": AT BASE 10: i's decimal numeral, for every int64. The world behind the call: the world before it, new blocks behind the heap, draws. (LAID: no walk: one application.) -/
theorem Tryd.internal_strconv_FormatInt_10 (n : Int) (h0 : -9223372036854775808 ≤ n) (h1 : n ≤ 9223372036854775807) (w : World) (htab : Lib.TabIs Tryd.prog w "internal/strconv.uint64pow10" .u64 Lib.pow10Tab) :
    Calls Tryd.prog 75 #[.int .i64 n, .int .i64 10] w fun e w' => e = .returned (.string ⟨(Lib.itoa n).toArray⟩) ∧ ∃ k os, w' = grow (w.drewN k) os := Any.internal_strconv_FormatInt_10 Tryd.laysM246 n h0 h1 w htab
def Tryd.lays246_ren : Go.Shelf.Ren := ⟨fun | 246 => 75 | 283 => 82 | 284 => 83 | 285 => 84 | 286 => 85 | 129 => 89 | 317 => 88 | 318 => 90 | 319 => 91 | 320 => 92 | 337 => 93 | 338 => 94 | n => n, fun | 2 => 2 | 3 => 3 | 9 => 9 | 4 => 4 | 171 => 143 | 0 => 0 | 53 => 144 | 37 => 42 | 5 => 5 | 173 => 147 | 212 => 153 | 51 => 39 | 20 => 20 | 213 => 154 | 46 => 47 | 232 => 157 | 233 => 158 | n => n, fun | 17 => 1 | 18 => 2 | 19 => 3 | n => n⟩
theorem Tryd.lays246 : Go.Proofs.Lays.n246 Tryd.prog Tryd.lays246_ren := {
  mixed := by kernel_rfl
  f129 := Tryd.func89.trans (congrArg some (by kernel_rfl))
  f246 := Tryd.func75.trans (congrArg some (by kernel_rfl))
  f283 := Tryd.func82.trans (congrArg some (by kernel_rfl))
  f284 := Tryd.func83.trans (congrArg some (by kernel_rfl))
  f285 := Tryd.func84.trans (congrArg some (by kernel_rfl))
  f286 := Tryd.func85.trans (congrArg some (by kernel_rfl))
  f317 := Tryd.func88.trans (congrArg some (by kernel_rfl))
  f318 := Tryd.func90.trans (congrArg some (by kernel_rfl))
  f319 := Tryd.func91.trans (congrArg some (by kernel_rfl))
  f320 := Tryd.func92.trans (congrArg some (by kernel_rfl))
  f337 := Tryd.func93.trans (congrArg some (by kernel_rfl))
  f338 := Tryd.func94.trans (congrArg some (by kernel_rfl))
  t0 := Tryd.underlying0
  a0 := Tryd.isAgg0
  z0 := Tryd.sizeOf0
  v0 := Tryd.zeroValue0
  t2 := Tryd.underlying2
  a2 := Tryd.isAgg2
  z2 := Tryd.sizeOf2
  v2 := Tryd.zeroValue2
  t3 := Tryd.underlying3
  a3 := Tryd.isAgg3
  z3 := Tryd.sizeOf3
  v3 := Tryd.zeroValue3
  t4 := Tryd.underlying4
  a4 := Tryd.isAgg4
  z4 := Tryd.sizeOf4
  v4 := Tryd.zeroValue4
  t5 := Tryd.underlying5
  a5 := Tryd.isAgg5
  z5 := Tryd.sizeOf5
  v5 := Tryd.zeroValue5
  t9 := Tryd.underlying9
  a9 := Tryd.isAgg9
  z9 := Tryd.sizeOf9
  v9 := Tryd.zeroValue9
  t20 := Tryd.underlying20
  a20 := Tryd.isAgg20
  z20 := Tryd.sizeOf20
  v20 := Tryd.zeroValue20
  t37 := Tryd.underlying42
  a37 := Tryd.isAgg42
  z37 := Tryd.sizeOf42
  v37 := Tryd.zeroValue42
  t46 := Tryd.underlying47
  a46 := Tryd.isAgg47
  z46 := Tryd.sizeOf47
  v46 := Tryd.zeroValue47
  t51 := Tryd.underlying39
  a51 := Tryd.isAgg39
  z51 := Tryd.sizeOf39
  v51 := Tryd.zeroValue39
  t53 := Tryd.underlying144
  a53 := Tryd.isAgg144
  z53 := Tryd.sizeOf144
  v53 := Tryd.zeroValue144
  t171 := Tryd.underlying143
  a171 := Tryd.isAgg143
  z171 := Tryd.sizeOf143
  v171 := Tryd.zeroValue143
  t173 := Tryd.underlying147
  a173 := Tryd.isAgg147
  z173 := Tryd.sizeOf147
  v173 := Tryd.zeroValue147
  t212 := Tryd.underlying153
  a212 := Tryd.isAgg153
  z212 := Tryd.sizeOf153
  v212 := Tryd.zeroValue153
  t213 := Tryd.underlying154
  a213 := Tryd.isAgg154
  z213 := Tryd.sizeOf154
  t232 := Tryd.underlying157
  a232 := Tryd.isAgg157
  z232 := Tryd.sizeOf157
  v232 := Tryd.zeroValue157
  t233 := Tryd.underlying158
  a233 := Tryd.isAgg158
  z233 := Tryd.sizeOf158
  v233 := Tryd.zeroValue158
  g17 := by kernel_rfl
  g18 := by kernel_rfl
  g19 := by kernel_rfl }
open Go.RowKit Go.Sort Go.Lib in
/-- THE ROAD WITHOUT THE TABLE: 0 <= i < 100: two constants are read, nothing is laid: no premise on the world, and the world is as it was. (LAID: no walk: one application.) -/
theorem Tryd.internal_strconv_FormatInt_10_small (i : Nat) (hi : i < 100) (w : World) :
    Calls Tryd.prog 75 #[.int .i64 i, .int .i64 10] w fun e w' => e = .returned (.string ⟨(Lib.decDigits i).toArray⟩) ∧ w' = w := Any.internal_strconv_FormatInt_10_small Tryd.lays246 i hi w
def Tryd.laysM243_ren : Go.Shelf.Ren := ⟨fun | 243 => 66 | 246 => 75 | 283 => 82 | 284 => 83 | 285 => 84 | 286 => 85 | 129 => 89 | 317 => 88 | 318 => 90 | 319 => 91 | 320 => 92 | 337 => 93 | 338 => 94 | n => n, fun | 3 => 3 | 9 => 9 | 2 => 2 | 4 => 4 | 171 => 143 | 0 => 0 | 53 => 144 | 37 => 42 | 5 => 5 | 173 => 147 | 212 => 153 | 51 => 39 | 20 => 20 | 213 => 154 | 46 => 47 | 232 => 157 | 233 => 158 | n => n, fun | 17 => 1 | 18 => 2 | 19 => 3 | n => n⟩
theorem Tryd.laysM243 : Go.Proofs.LaysM.n243 Tryd.prog Tryd.laysM243_ren := {
  mixed := by kernel_rfl
  f129 := Tryd.func89.trans (congrArg some (by kernel_rfl))
  f243 := Tryd.func66.trans (congrArg some (by kernel_rfl))
  f246 := Tryd.func75.trans (congrArg some (by kernel_rfl))
  f283 := Tryd.func82.trans (congrArg some (by kernel_rfl))
  f284 := Tryd.func83.trans (congrArg some (by kernel_rfl))
  f285 := Tryd.func84.trans (congrArg some (by kernel_rfl))
  f286 := Tryd.func85.trans (congrArg some (by kernel_rfl))
  f317 := Tryd.func88.trans (congrArg some (by kernel_rfl))
  f318 := Tryd.func90.trans (congrArg some (by kernel_rfl))
  f319 := Tryd.func91.trans (congrArg some (by kernel_rfl))
  f320 := Tryd.func92.trans (congrArg some (by kernel_rfl))
  f337 := Tryd.func93.trans (congrArg some (by kernel_rfl))
  f338 := Tryd.func94.trans (congrArg some (by kernel_rfl))
  t0 := Tryd.underlying0
  a0 := Tryd.isAgg0
  z0 := Tryd.sizeOf0
  v0 := Tryd.zeroValue0
  t2 := Tryd.underlying2
  a2 := Tryd.isAgg2
  z2 := Tryd.sizeOf2
  v2 := Tryd.zeroValue2
  t3 := Tryd.underlying3
  a3 := Tryd.isAgg3
  z3 := Tryd.sizeOf3
  v3 := Tryd.zeroValue3
  t4 := Tryd.underlying4
  a4 := Tryd.isAgg4
  z4 := Tryd.sizeOf4
  v4 := Tryd.zeroValue4
  t5 := Tryd.underlying5
  a5 := Tryd.isAgg5
  z5 := Tryd.sizeOf5
  v5 := Tryd.zeroValue5
  t9 := Tryd.underlying9
  a9 := Tryd.isAgg9
  z9 := Tryd.sizeOf9
  v9 := Tryd.zeroValue9
  t20 := Tryd.underlying20
  a20 := Tryd.isAgg20
  z20 := Tryd.sizeOf20
  v20 := Tryd.zeroValue20
  t37 := Tryd.underlying42
  a37 := Tryd.isAgg42
  z37 := Tryd.sizeOf42
  v37 := Tryd.zeroValue42
  t46 := Tryd.underlying47
  a46 := Tryd.isAgg47
  z46 := Tryd.sizeOf47
  v46 := Tryd.zeroValue47
  t51 := Tryd.underlying39
  a51 := Tryd.isAgg39
  z51 := Tryd.sizeOf39
  v51 := Tryd.zeroValue39
  t53 := Tryd.underlying144
  a53 := Tryd.isAgg144
  z53 := Tryd.sizeOf144
  v53 := Tryd.zeroValue144
  t171 := Tryd.underlying143
  a171 := Tryd.isAgg143
  z171 := Tryd.sizeOf143
  v171 := Tryd.zeroValue143
  t173 := Tryd.underlying147
  a173 := Tryd.isAgg147
  z173 := Tryd.sizeOf147
  v173 := Tryd.zeroValue147
  t212 := Tryd.underlying153
  a212 := Tryd.isAgg153
  z212 := Tryd.sizeOf153
  v212 := Tryd.zeroValue153
  t213 := Tryd.underlying154
  a213 := Tryd.isAgg154
  z213 := Tryd.sizeOf154
  t232 := Tryd.underlying157
  a232 := Tryd.isAgg157
  z232 := Tryd.sizeOf157
  v232 := Tryd.zeroValue157
  t233 := Tryd.underlying158
  a233 := Tryd.isAgg158
  z233 := Tryd.sizeOf158
  v233 := Tryd.zeroValue158
  g17 := by kernel_rfl
  g18 := by kernel_rfl
  g19 := by kernel_rfl
  i0 := by kernel_rfl
  i2 := by kernel_rfl
  i3 := by kernel_rfl
  i4 := by kernel_rfl
  i5 := by kernel_rfl
  i9 := by kernel_rfl
  i20 := by kernel_rfl
  i37 := by kernel_rfl
  i46 := by kernel_rfl
  i51 := by kernel_rfl
  i53 := by kernel_rfl
  i171 := by kernel_rfl
  i173 := by kernel_rfl
  i212 := by kernel_rfl
  i232 := by kernel_rfl
  i233 := by kernel_rfl
  m17 := by kernel_rfl
  m18 := by kernel_rfl
  m19 := by kernel_rfl }
open Go.RowKit Go.Sort Go.Lib in
/-- internal/strconv.Itoa: "Itoa is equivalent to FormatInt(int64(i), 10).": i's decimal numeral, for every int. (LAID: no walk: one application.) -/
theorem Tryd.internal_strconv_Itoa (n : Int) (h0 : -9223372036854775808 ≤ n) (h1 : n ≤ 9223372036854775807) (w : World) (htab : Lib.TabIs Tryd.prog w "internal/strconv.uint64pow10" .u64 Lib.pow10Tab) :
    Calls Tryd.prog 66 #[.int .i64 n] w fun e w' => e = .returned (.string ⟨(Lib.itoa n).toArray⟩) ∧ ∃ k os, w' = grow (w.drewN k) os := Any.internal_strconv_Itoa Tryd.laysM243 n h0 h1 w htab
def Tryd.lays243_ren : Go.Shelf.Ren := ⟨fun | 243 => 66 | 246 => 75 | 283 => 82 | 284 => 83 | 285 => 84 | 286 => 85 | 129 => 89 | 317 => 88 | 318 => 90 | 319 => 91 | 320 => 92 | 337 => 93 | 338 => 94 | n => n, fun | 3 => 3 | 9 => 9 | 2 => 2 | 4 => 4 | 171 => 143 | 0 => 0 | 53 => 144 | 37 => 42 | 5 => 5 | 173 => 147 | 212 => 153 | 51 => 39 | 20 => 20 | 213 => 154 | 46 => 47 | 232 => 157 | 233 => 158 | n => n, fun | 17 => 1 | 18 => 2 | 19 => 3 | n => n⟩
theorem Tryd.lays243 : Go.Proofs.Lays.n243 Tryd.prog Tryd.lays243_ren := {
  mixed := by kernel_rfl
  f129 := Tryd.func89.trans (congrArg some (by kernel_rfl))
  f243 := Tryd.func66.trans (congrArg some (by kernel_rfl))
  f246 := Tryd.func75.trans (congrArg some (by kernel_rfl))
  f283 := Tryd.func82.trans (congrArg some (by kernel_rfl))
  f284 := Tryd.func83.trans (congrArg some (by kernel_rfl))
  f285 := Tryd.func84.trans (congrArg some (by kernel_rfl))
  f286 := Tryd.func85.trans (congrArg some (by kernel_rfl))
  f317 := Tryd.func88.trans (congrArg some (by kernel_rfl))
  f318 := Tryd.func90.trans (congrArg some (by kernel_rfl))
  f319 := Tryd.func91.trans (congrArg some (by kernel_rfl))
  f320 := Tryd.func92.trans (congrArg some (by kernel_rfl))
  f337 := Tryd.func93.trans (congrArg some (by kernel_rfl))
  f338 := Tryd.func94.trans (congrArg some (by kernel_rfl))
  t0 := Tryd.underlying0
  a0 := Tryd.isAgg0
  z0 := Tryd.sizeOf0
  v0 := Tryd.zeroValue0
  t2 := Tryd.underlying2
  a2 := Tryd.isAgg2
  z2 := Tryd.sizeOf2
  v2 := Tryd.zeroValue2
  t3 := Tryd.underlying3
  a3 := Tryd.isAgg3
  z3 := Tryd.sizeOf3
  v3 := Tryd.zeroValue3
  t4 := Tryd.underlying4
  a4 := Tryd.isAgg4
  z4 := Tryd.sizeOf4
  v4 := Tryd.zeroValue4
  t5 := Tryd.underlying5
  a5 := Tryd.isAgg5
  z5 := Tryd.sizeOf5
  v5 := Tryd.zeroValue5
  t9 := Tryd.underlying9
  a9 := Tryd.isAgg9
  z9 := Tryd.sizeOf9
  v9 := Tryd.zeroValue9
  t20 := Tryd.underlying20
  a20 := Tryd.isAgg20
  z20 := Tryd.sizeOf20
  v20 := Tryd.zeroValue20
  t37 := Tryd.underlying42
  a37 := Tryd.isAgg42
  z37 := Tryd.sizeOf42
  v37 := Tryd.zeroValue42
  t46 := Tryd.underlying47
  a46 := Tryd.isAgg47
  z46 := Tryd.sizeOf47
  v46 := Tryd.zeroValue47
  t51 := Tryd.underlying39
  a51 := Tryd.isAgg39
  z51 := Tryd.sizeOf39
  v51 := Tryd.zeroValue39
  t53 := Tryd.underlying144
  a53 := Tryd.isAgg144
  z53 := Tryd.sizeOf144
  v53 := Tryd.zeroValue144
  t171 := Tryd.underlying143
  a171 := Tryd.isAgg143
  z171 := Tryd.sizeOf143
  v171 := Tryd.zeroValue143
  t173 := Tryd.underlying147
  a173 := Tryd.isAgg147
  z173 := Tryd.sizeOf147
  v173 := Tryd.zeroValue147
  t212 := Tryd.underlying153
  a212 := Tryd.isAgg153
  z212 := Tryd.sizeOf153
  v212 := Tryd.zeroValue153
  t213 := Tryd.underlying154
  a213 := Tryd.isAgg154
  z213 := Tryd.sizeOf154
  t232 := Tryd.underlying157
  a232 := Tryd.isAgg157
  z232 := Tryd.sizeOf157
  v232 := Tryd.zeroValue157
  t233 := Tryd.underlying158
  a233 := Tryd.isAgg158
  z233 := Tryd.sizeOf158
  v233 := Tryd.zeroValue158
  g17 := by kernel_rfl
  g18 := by kernel_rfl
  g19 := by kernel_rfl }
open Go.RowKit Go.Sort Go.Lib in
/-- THE ROAD WITHOUT THE TABLE: 0 <= i < 100. (LAID: no walk: one application.) -/
theorem Tryd.internal_strconv_Itoa_small (i : Nat) (hi : i < 100) (w : World) :
    Calls Tryd.prog 66 #[.int .i64 i] w fun e w' => e = .returned (.string ⟨(Lib.decDigits i).toArray⟩) ∧ w' = w := Any.internal_strconv_Itoa_small Tryd.lays243 i hi w
def Tryd.laysM171_ren : Go.Shelf.Ren := ⟨fun | 171 => 44 | 243 => 66 | 246 => 75 | 283 => 82 | 284 => 83 | 285 => 84 | 286 => 85 | 129 => 89 | 317 => 88 | 318 => 90 | 319 => 91 | 320 => 92 | 337 => 93 | 338 => 94 | n => n, fun | 3 => 3 | 9 => 9 | 2 => 2 | 4 => 4 | 171 => 143 | 0 => 0 | 53 => 144 | 37 => 42 | 5 => 5 | 173 => 147 | 212 => 153 | 51 => 39 | 20 => 20 | 213 => 154 | 46 => 47 | 232 => 157 | 233 => 158 | n => n, fun | 17 => 1 | 18 => 2 | 19 => 3 | n => n⟩
theorem Tryd.laysM171 : Go.Proofs.LaysM.n171 Tryd.prog Tryd.laysM171_ren := {
  mixed := by kernel_rfl
  f129 := Tryd.func89.trans (congrArg some (by kernel_rfl))
  f171 := Tryd.func44.trans (congrArg some (by kernel_rfl))
  f243 := Tryd.func66.trans (congrArg some (by kernel_rfl))
  f246 := Tryd.func75.trans (congrArg some (by kernel_rfl))
  f283 := Tryd.func82.trans (congrArg some (by kernel_rfl))
  f284 := Tryd.func83.trans (congrArg some (by kernel_rfl))
  f285 := Tryd.func84.trans (congrArg some (by kernel_rfl))
  f286 := Tryd.func85.trans (congrArg some (by kernel_rfl))
  f317 := Tryd.func88.trans (congrArg some (by kernel_rfl))
  f318 := Tryd.func90.trans (congrArg some (by kernel_rfl))
  f319 := Tryd.func91.trans (congrArg some (by kernel_rfl))
  f320 := Tryd.func92.trans (congrArg some (by kernel_rfl))
  f337 := Tryd.func93.trans (congrArg some (by kernel_rfl))
  f338 := Tryd.func94.trans (congrArg some (by kernel_rfl))
  t0 := Tryd.underlying0
  a0 := Tryd.isAgg0
  z0 := Tryd.sizeOf0
  v0 := Tryd.zeroValue0
  t2 := Tryd.underlying2
  a2 := Tryd.isAgg2
  z2 := Tryd.sizeOf2
  v2 := Tryd.zeroValue2
  t3 := Tryd.underlying3
  a3 := Tryd.isAgg3
  z3 := Tryd.sizeOf3
  v3 := Tryd.zeroValue3
  t4 := Tryd.underlying4
  a4 := Tryd.isAgg4
  z4 := Tryd.sizeOf4
  v4 := Tryd.zeroValue4
  t5 := Tryd.underlying5
  a5 := Tryd.isAgg5
  z5 := Tryd.sizeOf5
  v5 := Tryd.zeroValue5
  t9 := Tryd.underlying9
  a9 := Tryd.isAgg9
  z9 := Tryd.sizeOf9
  v9 := Tryd.zeroValue9
  t20 := Tryd.underlying20
  a20 := Tryd.isAgg20
  z20 := Tryd.sizeOf20
  v20 := Tryd.zeroValue20
  t37 := Tryd.underlying42
  a37 := Tryd.isAgg42
  z37 := Tryd.sizeOf42
  v37 := Tryd.zeroValue42
  t46 := Tryd.underlying47
  a46 := Tryd.isAgg47
  z46 := Tryd.sizeOf47
  v46 := Tryd.zeroValue47
  t51 := Tryd.underlying39
  a51 := Tryd.isAgg39
  z51 := Tryd.sizeOf39
  v51 := Tryd.zeroValue39
  t53 := Tryd.underlying144
  a53 := Tryd.isAgg144
  z53 := Tryd.sizeOf144
  v53 := Tryd.zeroValue144
  t171 := Tryd.underlying143
  a171 := Tryd.isAgg143
  z171 := Tryd.sizeOf143
  v171 := Tryd.zeroValue143
  t173 := Tryd.underlying147
  a173 := Tryd.isAgg147
  z173 := Tryd.sizeOf147
  v173 := Tryd.zeroValue147
  t212 := Tryd.underlying153
  a212 := Tryd.isAgg153
  z212 := Tryd.sizeOf153
  v212 := Tryd.zeroValue153
  t213 := Tryd.underlying154
  a213 := Tryd.isAgg154
  z213 := Tryd.sizeOf154
  t232 := Tryd.underlying157
  a232 := Tryd.isAgg157
  z232 := Tryd.sizeOf157
  v232 := Tryd.zeroValue157
  t233 := Tryd.underlying158
  a233 := Tryd.isAgg158
  z233 := Tryd.sizeOf158
  v233 := Tryd.zeroValue158
  g17 := by kernel_rfl
  g18 := by kernel_rfl
  g19 := by kernel_rfl
  i0 := by kernel_rfl
  i2 := by kernel_rfl
  i3 := by kernel_rfl
  i4 := by kernel_rfl
  i5 := by kernel_rfl
  i9 := by kernel_rfl
  i20 := by kernel_rfl
  i37 := by kernel_rfl
  i46 := by kernel_rfl
  i51 := by kernel_rfl
  i53 := by kernel_rfl
  i171 := by kernel_rfl
  i173 := by kernel_rfl
  i212 := by kernel_rfl
  i232 := by kernel_rfl
  i233 := by kernel_rfl
  m17 := by kernel_rfl
  m18 := by kernel_rfl
  m19 := by kernel_rfl }
open Go.RowKit Go.Sort Go.Lib in
/-- strconv.Itoa: "Itoa is equivalent to FormatInt(int64(i), 10).": i's DECIMAL NUMERAL ('Lib.itoa': a '-' where i is negative, then the digits), FOR EVERY int. The world behind the call: the world before it, new blocks behind the heap (the library's 'var a [24]byte'), draws. (LAID: no walk: one application.) -/
theorem Tryd.strconv_Itoa (n : Int) (h0 : -9223372036854775808 ≤ n) (h1 : n ≤ 9223372036854775807) (w : World) (htab : Lib.TabIs Tryd.prog w "internal/strconv.uint64pow10" .u64 Lib.pow10Tab) :
    Calls Tryd.prog 44 #[.int .i64 n] w fun e w' => e = .returned (.string ⟨(Lib.itoa n).toArray⟩) ∧ ∃ k os, w' = grow (w.drewN k) os := Any.strconv_Itoa Tryd.laysM171 n h0 h1 w htab
def Tryd.lays171_ren : Go.Shelf.Ren := ⟨fun | 171 => 44 | 243 => 66 | 246 => 75 | 283 => 82 | 284 => 83 | 285 => 84 | 286 => 85 | 129 => 89 | 317 => 88 | 318 => 90 | 319 => 91 | 320 => 92 | 337 => 93 | 338 => 94 | n => n, fun | 3 => 3 | 9 => 9 | 2 => 2 | 4 => 4 | 171 => 143 | 0 => 0 | 53 => 144 | 37 => 42 | 5 => 5 | 173 => 147 | 212 => 153 | 51 => 39 | 20 => 20 | 213 => 154 | 46 => 47 | 232 => 157 | 233 => 158 | n => n, fun | 17 => 1 | 18 => 2 | 19 => 3 | n => n⟩
theorem Tryd.lays171 : Go.Proofs.Lays.n171 Tryd.prog Tryd.lays171_ren := {
  mixed := by kernel_rfl
  f129 := Tryd.func89.trans (congrArg some (by kernel_rfl))
  f171 := Tryd.func44.trans (congrArg some (by kernel_rfl))
  f243 := Tryd.func66.trans (congrArg some (by kernel_rfl))
  f246 := Tryd.func75.trans (congrArg some (by kernel_rfl))
  f283 := Tryd.func82.trans (congrArg some (by kernel_rfl))
  f284 := Tryd.func83.trans (congrArg some (by kernel_rfl))
  f285 := Tryd.func84.trans (congrArg some (by kernel_rfl))
  f286 := Tryd.func85.trans (congrArg some (by kernel_rfl))
  f317 := Tryd.func88.trans (congrArg some (by kernel_rfl))
  f318 := Tryd.func90.trans (congrArg some (by kernel_rfl))
  f319 := Tryd.func91.trans (congrArg some (by kernel_rfl))
  f320 := Tryd.func92.trans (congrArg some (by kernel_rfl))
  f337 := Tryd.func93.trans (congrArg some (by kernel_rfl))
  f338 := Tryd.func94.trans (congrArg some (by kernel_rfl))
  t0 := Tryd.underlying0
  a0 := Tryd.isAgg0
  z0 := Tryd.sizeOf0
  v0 := Tryd.zeroValue0
  t2 := Tryd.underlying2
  a2 := Tryd.isAgg2
  z2 := Tryd.sizeOf2
  v2 := Tryd.zeroValue2
  t3 := Tryd.underlying3
  a3 := Tryd.isAgg3
  z3 := Tryd.sizeOf3
  v3 := Tryd.zeroValue3
  t4 := Tryd.underlying4
  a4 := Tryd.isAgg4
  z4 := Tryd.sizeOf4
  v4 := Tryd.zeroValue4
  t5 := Tryd.underlying5
  a5 := Tryd.isAgg5
  z5 := Tryd.sizeOf5
  v5 := Tryd.zeroValue5
  t9 := Tryd.underlying9
  a9 := Tryd.isAgg9
  z9 := Tryd.sizeOf9
  v9 := Tryd.zeroValue9
  t20 := Tryd.underlying20
  a20 := Tryd.isAgg20
  z20 := Tryd.sizeOf20
  v20 := Tryd.zeroValue20
  t37 := Tryd.underlying42
  a37 := Tryd.isAgg42
  z37 := Tryd.sizeOf42
  v37 := Tryd.zeroValue42
  t46 := Tryd.underlying47
  a46 := Tryd.isAgg47
  z46 := Tryd.sizeOf47
  v46 := Tryd.zeroValue47
  t51 := Tryd.underlying39
  a51 := Tryd.isAgg39
  z51 := Tryd.sizeOf39
  v51 := Tryd.zeroValue39
  t53 := Tryd.underlying144
  a53 := Tryd.isAgg144
  z53 := Tryd.sizeOf144
  v53 := Tryd.zeroValue144
  t171 := Tryd.underlying143
  a171 := Tryd.isAgg143
  z171 := Tryd.sizeOf143
  v171 := Tryd.zeroValue143
  t173 := Tryd.underlying147
  a173 := Tryd.isAgg147
  z173 := Tryd.sizeOf147
  v173 := Tryd.zeroValue147
  t212 := Tryd.underlying153
  a212 := Tryd.isAgg153
  z212 := Tryd.sizeOf153
  v212 := Tryd.zeroValue153
  t213 := Tryd.underlying154
  a213 := Tryd.isAgg154
  z213 := Tryd.sizeOf154
  t232 := Tryd.underlying157
  a232 := Tryd.isAgg157
  z232 := Tryd.sizeOf157
  v232 := Tryd.zeroValue157
  t233 := Tryd.underlying158
  a233 := Tryd.isAgg158
  z233 := Tryd.sizeOf158
  v233 := Tryd.zeroValue158
  g17 := by kernel_rfl
  g18 := by kernel_rfl
  g19 := by kernel_rfl }
open Go.RowKit Go.Sort Go.Lib in
/-- THE ROAD WITHOUT THE TABLE: 0 <= i < 100: NO PREMISE ON THE WORLD, AND THE WORLD IS AS IT WAS: a row that keeps its argument in that range need list no table ('laid = []'). (LAID: no walk: one application.) -/
theorem Tryd.strconv_Itoa_small (i : Nat) (hi : i < 100) (w : World) :
    Calls Tryd.prog 44 #[.int .i64 i] w fun e w' => e = .returned (.string ⟨(Lib.decDigits i).toArray⟩) ∧ w' = w := Any.strconv_Itoa_small Tryd.lays171 i hi w
end Go.Proofs
namespace Go.Proofs.YtgigigchjnnonaaDoor
open Go Go.V
-- 44: strconv.Itoa
-- 23: pith/ckpt.Name


/-- The library's table of powers of ten lies on the heap. -/
def Tab (H : Heap) : Prop := ∀ w : World, w.heap = H → Lib.TabIs Tryd.prog w "internal/strconv.uint64pow10" .u64 Lib.pow10Tab
theorem Tab.ext {H H' : Heap} (h : Tab H) (hx : Ext H H') : Tab H' := by
  intro w hw
  have h' := h { w with heap := H } rfl
  unfold Lib.TabIs World.var? at h' ⊢
  cases hg : Tryd.prog.globalNamed "internal/strconv.uint64pow10" with
  | none => rw [hg] at h'; exact h'
  | some g =>
    rw [hg] at h'
    simp only [Option.bind_some] at h' ⊢
    rw [hw]
    cases hk : H[g]? with
    | none => rw [hk] at h'; cases h'
    | some o =>
      rw [hx.get g (Array.getElem?_eq_some_iff.1 hk).1]
      exact h'

theorem itoa_len {n : Int} (h0 : -9223372036854775808 ≤ n) (h1 : n ≤ 9223372036854775807) : (Lib.itoa n).length ≤ 21 := by
  unfold Lib.itoa
  split
  · have := Lib.nDigits_le20 n.natAbs (by omega)
    simp [Lib.decDigits_length]
    omega
  · have := Lib.nDigits_le20 n.toNat (by omega)
    rw [Lib.decDigits_length]
    omega

theorem F44 (n : Int) (H : Heap) (ht : Tab H) (h0 : -9223372036854775808 ≤ n) (h1 : n ≤ 9223372036854775807) :
    Fun Tryd.prog 44 #[.int .i64 n] H (fun r H' => r = .string ⟨(Lib.itoa n).toArray⟩ ∧ Ext H H') := by
  intro w hw
  refine (Tryd.strconv_Itoa n h0 h1 w (ht w hw)).mono ?_
  rintro e w' ⟨rfl, k, os, rfl⟩
  refine ⟨_, rfl, ⟨rfl, rfl, rfl, trivial⟩, rfl, ?_⟩
  subst hw
  exact ⟨by simp [Sort.grow, World.drewN], fun b hb => by simp [Sort.grow, World.drewN, Array.getElem?_append, hb]⟩

/-- The name of a generation. -/
def nameS (n : Int) : ByteArray := ⟨#[99, 107, 112, 116, 46]⟩ ++ ⟨(Lib.itoa n).toArray⟩
theorem F23 (n : Int) (H : Heap) (ht : Tab H) (h0 : -9223372036854775808 ≤ n) (h1 : n ≤ 9223372036854775807) :
    Fun Tryd.prog 23 #[.int .i64 n] H (fun r H' => r = .string (nameS n) ∧ Ext H H') := by
  refine fun_of mixed (args := [_]) Tryd.func23 Tryd.ntmps23 b23 r23 rfl ?_
  simp only [go_sem, ↓reduceIte, Nat.reduceEqDiff, Nat.reduceLeDiff, Nat.reduceAdd, Nat.reduceMul, Nat.reduceSub, Nat.reduceBEq, Nat.reduceGT, Nat.reduceLT, Int.reduceLE, Int.reduceLT, Int.reduceNeg, reduceCtorEq]
  refine FunI.by (F44 n H ht h0 h1) ?_
  rintro _ H1 ⟨rfl, hx⟩
  simp only [go_sem, ↓reduceIte, Nat.reduceEqDiff, Nat.reduceLeDiff, Nat.reduceAdd, Nat.reduceMul, Nat.reduceSub, Nat.reduceBEq, Nat.reduceGT, Nat.reduceLT, Int.reduceLE, Int.reduceLT, Int.reduceNeg, reduceCtorEq]
  refine ⟨?_, rfl, hx⟩
  have := itoa_len h0 h1
  show 5 + (Lib.itoa n).length ≤ _
  omega
end Go.Proofs.YtgigigchjnnonaaDoor
namespace Go.Proofs.YtgigigchjnnonaaDoor
open Go Go.V Go.ChangeShapes Go.WideShapes Go.ChangeAt Go.RowKit
-- 5: uint8
-- 39: uint32
-- 144: uint64
-- 42: []uint8
-- 49: [][]uint8
-- 3: int
-- 22: []int
-- 4: bool
-- 23: []bool
-- 149: [16]uint32
-- 153: [20]uint64
theorem own : ownKnob Tryd.prog.godebug = none := by kernel_rfl
theorem laidOut : laidOutB Tryd.prog = true := by kernel_rfl
theorem gTab : Tryd.prog.globalNamed "pith/crc.table" = some 0 := by kernel_rfl
theorem gTabType : (Tryd.prog.globals[0]?).map (·.type) = some 149 := by kernel_rfl
theorem cellsTab : Tryd.prog.cellsOf 149 = 16 := by kernel_rfl
theorem cellsU32 : Tryd.prog.cellsOf 39 = 1 := by kernel_rfl
theorem cellsU8 : Tryd.prog.cellsOf 5 = 1 := by kernel_rfl
theorem cellsBs : Tryd.prog.cellsOf 42 = 1 := by kernel_rfl
theorem cellsBool : Tryd.prog.cellsOf 4 = 1 := by kernel_rfl
def crcTab9 : List Int := (List.range 16).map fun i => wI (tabW i)
theorem gPow : Tryd.prog.globalNamed "internal/strconv.uint64pow10" = some 1 := by kernel_rfl
theorem gPowType : (Tryd.prog.globals[1]?).map (·.type) = some 153 := by kernel_rfl
theorem cellsPow : Tryd.prog.cellsOf 153 = 20 := by kernel_rfl
theorem cellsU64 : Tryd.prog.cellsOf 144 = 1 := by kernel_rfl
/-- What the rows' list gives: the table of powers of ten. -/
theorem pow_of {W : World} (h : laidMetH Tryd.prog Rows.ckptKeepsRow.laid W) : Tab W.heap := by
  intro w hw
  rw [MakeChecks.laidMetH_plain _ _ _ (by kernel_rfl)] at h
  have h4 : Lib.TabIs Tryd.prog W "internal/strconv.uint64pow10" .u64 Lib.pow10Tab := Lib.tabIs_of_head gPow gPowType Tryd.underlying153 Tryd.underlying144 cellsU64 cellsPow (laidMet.tail (laidMet.tail (h)))
  unfold Lib.TabIs World.var? at h4 ⊢
  rw [hw]
  exact h4
/-- What the rows' list gives: the table of sums. -/
theorem tab_of {W : World} (h : laidMetH Tryd.prog Rows.ckptKeepsRow.laid W) : CrcTab W.heap := by
  rw [MakeChecks.laidMetH_plain _ _ _ (by kernel_rfl)] at h
  have h4 : Lib.TabIs Tryd.prog W "pith/crc.table" .u32 crcTab9 := Lib.tabIs_of_head (rest := []) gTab gTabType Tryd.underlying149 Tryd.underlying39 cellsU32 cellsTab (laidMet.tail (laidMet.tail (laidMet.tail (h))))
  unfold Lib.TabIs World.var? at h4
  rw [gTab] at h4
  simp only [Option.bind_some] at h4
  split at h4
  · rename_i cs t fr hc
    simp only [Option.some.injEq] at h4
    refine ⟨t, fr, ?_⟩
    rw [hc, h4]
    congr 2
  · cases h4
/-- A world for the witness: the door's own. -/
theorem door_met (os : Os) (args : Array Value) : laidMet Tryd.prog Rows.ckptKeepsRow.laid ((World.doorLaid Tryd.prog 400 os).forCall (fun _ _ => 0) ⟨#[], args, []⟩).memory :=
  laidMet_of_run' 8 (by kernel_rfl) (by kernel_rfl)
/-! ### What the bound gives -/
theorem bulk_one {D : Type} (d : DataW D) : 1 ≤ Rows.uptoBulk d := by
  cases d with
  | lit l => cases l <;> simp [Rows.uptoBulk]
  | nil => simp [Rows.uptoBulk]
  | ptr d => simp [Rows.uptoBulk]
  | slice elems spare => simp [Rows.uptoBulk]
  | agg parts => simp [Rows.uptoBulk]
  | iface t d => simp [Rows.uptoBulk]
  | map entries => simp [Rows.uptoBulk]
  | held h => simp [Rows.uptoBulk]
theorem bulk_part {D : Type} {d : DataW D} {l : List (DataW D)} (h : d ∈ l) : Rows.uptoBulk d ≤ Rows.uptoBulkAll l := by
  induction l with
  | nil => cases h
  | cons x r ih =>
    simp only [Rows.uptoBulkAll]
    cases List.mem_cons.1 h with
    | inl e => subst e; omega
    | inr e => have := ih e; omega
theorem bulk_len {D : Type} (l : List (DataW D)) : l.length ≤ Rows.uptoBulkAll l := by
  induction l with
  | nil => simp [Rows.uptoBulkAll]
  | cons x r ih => have := bulk_one x; simp only [Rows.uptoBulkAll, List.length_cons]; omega
theorem bulk_dlen {D : Type} (d : DataW D) : dlen d ≤ Rows.uptoBulk d := by
  cases d with
  | slice elems spare =>
    have := bulk_len elems
    simp only [dlen, Rows.uptoBulk]
    omega
  | _ => simp [dlen]
theorem bulk_lists {D : Type} {d : DataW D} {xss : List (List Int)} (h : xss = [] ∨ ∃ els rest, d = .slice els rest ∧ els.map dlen = xss.map List.length) : xss.length ≤ Rows.uptoBulk d ∧ ∀ l ∈ xss, l.length ≤ Rows.uptoBulk d := by
  rcases h with rfl | ⟨els, rest, rfl, hm⟩
  · simp
  · have hlen : els.length = xss.length := by simpa using congrArg List.length hm
    have h1 := bulk_len els
    refine ⟨by simp only [Rows.uptoBulk]; omega, fun l hl => ?_⟩
    have : l.length ∈ els.map dlen := by rw [hm]; exact List.mem_map_of_mem hl
    obtain ⟨el, he, hel⟩ := List.mem_map.1 this
    have h2 := bulk_dlen el
    have h3 := bulk_part he
    simp only [Rows.uptoBulk]
    omega
theorem bulk_of {D : Type} {l : List (DataW D)} (hk : Rows.uptoSmall D l = true) {d : DataW D} (h : d ∈ l) : Rows.uptoBulk d ≤ 1048576 :=
  Nat.le_trans (bulk_part h) (of_decide_eq_true hk)

theorem byt_of {xs : List Int} (h : ∀ y ∈ xs, IntR .u8 y) : Byt xs := by
  intro x hx
  have := h x hx
  simp only [IntR, Lit.wf, IntKind.min, IntKind.max, IntKind.signed, IntKind.bits, Bool.and_eq_true, decide_eq_true_eq] at this
  simp at this
  omega
theorem cells_one {v : Value} {t : TypeId} {e : TypeId} {W : World} {base : Nat} (ht : Tryd.prog.underlying t = some (.slice e)) (hv : Value.okWide Tryd.prog W .any base t v) : v.cells.toList = [v] := by
  obtain ⟨a, n, m, rfl⟩ := okWide_slice ht hv
  rfl

theorem i64_rng {x : Int} (h : (Lit.int .i64 x).wf = true) : -9223372036854775808 ≤ x ∧ x < 9223372036854775808 := by
  simp only [Lit.wf, IntKind.min, IntKind.max, IntKind.signed, IntKind.bits, Bool.and_eq_true, decide_eq_true_eq] at h
  simp at h; omega
theorem u32_rng {x : Int} (h : (Lit.int .u32 x).wf = true) : 0 ≤ x ∧ x < 4294967296 := by
  simp only [Lit.wf, IntKind.min, IntKind.max, IntKind.signed, IntKind.bits, Bool.and_eq_true, decide_eq_true_eq] at h
  simp at h; omega
theorem arg_bs {D : Type} {enc : TypeId × Value → D} {W : World} {base : Nat} {sp : Nat → Bool} {held : Bool} {v : Value} {d : DataW D} {qs : List MemPlace} (hv : Value.okWide Tryd.prog W .any base 42 v) (h : DataW.Trod enc Tryd.prog W 0 sp held 42 v d qs) :
    ∃ xs, Ints W.heap 5 .u8 v xs ∧ Byt xs ∧ xs.length ≤ Rows.uptoBulk d := by
  obtain ⟨fuel, hf⟩ := h
  rw [cells_one Tryd.underlying42 hv] at hf
  obtain ⟨v', xs, e, hi, hb, hd⟩ := open_intsl Tryd.underlying42 Tryd.underlying5 cellsU8 hf
  obtain rfl : v = v' := by simpa using e
  exact ⟨xs, hi, byt_of hb, by rw [← hd]; exact bulk_dlen d⟩
theorem arg_bss {D : Type} {enc : TypeId × Value → D} {W : World} {base : Nat} {sp : Nat → Bool} {held : Bool} {v : Value} {d : DataW D} {qs : List MemPlace} (hv : Value.okWide Tryd.prog W .any base 49 v) (h : DataW.Trod enc Tryd.prog W 0 sp held 49 v d qs) :
    ∃ l, Lists W.heap 42 5 v l ∧ (∀ x ∈ l, Byt x) ∧ l.length ≤ Rows.uptoBulk d := by
  obtain ⟨fuel, hf⟩ := h
  rw [cells_one Tryd.underlying49 hv] at hf
  obtain ⟨v', l, e, hi, hb, hd⟩ := open_listsl Tryd.underlying49 cellsBs Tryd.underlying42 cellsU8 Tryd.underlying5 hf
  obtain rfl : v = v' := by simpa using e
  exact ⟨l, hi, fun x hx => byt_of (hb x hx), (bulk_lists hd).1⟩
theorem cellsInt : Tryd.prog.cellsOf 3 = 1 := by kernel_rfl
theorem arg_is {D : Type} {enc : TypeId × Value → D} {W : World} {base : Nat} {sp : Nat → Bool} {held : Bool} {v : Value} {d : DataW D} {qs : List MemPlace} (hv : Value.okWide Tryd.prog W .any base 22 v) (h : DataW.Trod enc Tryd.prog W 0 sp held 22 v d qs) :
    ∃ xs, Ints W.heap 3 .i64 v xs ∧ xs.length ≤ Rows.uptoBulk d := by
  obtain ⟨fuel, hf⟩ := h
  rw [cells_one Tryd.underlying22 hv] at hf
  obtain ⟨v', xs, e, hi, hb, hd⟩ := open_intsl Tryd.underlying22 Tryd.underlying3 cellsInt hf
  obtain rfl : v = v' := by simpa using e
  exact ⟨xs, hi, by rw [← hd]; exact bulk_dlen d⟩

theorem arg_bls {D : Type} {enc : TypeId × Value → D} {W : World} {base : Nat} {sp : Nat → Bool} {held : Bool} {v : Value} {d : DataW D} {qs : List MemPlace} (hv : Value.okWide Tryd.prog W .any base 23 v) (h : DataW.Trod enc Tryd.prog W 0 sp held 23 v d qs) :
    ∃ xs, Bls W.heap 4 v xs ∧ xs.length ≤ Rows.uptoBulk d := by
  obtain ⟨fuel, hf⟩ := h
  rw [cells_one Tryd.underlying23 hv] at hf
  obtain ⟨v', xs, e, hi, hd⟩ := open_boolsl Tryd.underlying23 Tryd.underlying4 cellsBool hf
  obtain rfl : v = v' := by simpa using e
  exact ⟨xs, hi, by rw [← hd]; exact bulk_dlen d⟩
end Go.Proofs.YtgigigchjnnonaaDoor
namespace Go.Proofs.YtgigigchjnnonaaDoor
open Go Go.V




-- 5: uint8
-- 42: []uint8
-- 49: [][]uint8

-- 22: []int
-- 3: int

def espec : Nat → List (List Int) → Option (List Int × List (List Int))
  | 0, l => some ([], l)
  | _ + 1, [] => none
  | n + 1, xs :: l => if (rdN xs (min 200 (n + 1))).2.2 = 0 then (espec (n + 1 - min 200 (n + 1)) l).map fun r => ((rdN xs (min 200 (n + 1))).1 ++ r.1, r.2) else none
theorem espec_zero {l : List (List Int)} : espec 0 l = some ([], l) := by cases l <;> rfl
theorem espec_cons {n : Nat} {xs : List Int} {l : List (List Int)} (h : 0 < n) : espec n (xs :: l) = if (rdN xs (min 200 n)).2.2 = 0 then (espec (n - min 200 n) l).map fun r => ((rdN xs (min 200 n)).1 ++ r.1, r.2) else none := by
  cases n with
  | zero => omega
  | succ n => rfl
theorem espec_nil {n : Nat} (h : 0 < n) : espec n [] = none := by
  cases n with
  | zero => omega
  | succ n => rfl
/-- An error stays. -/
theorem rdN_err {xs : List Int} {i : Nat} (h : (rdN xs i).2.2 ≠ 0) : ∀ j, (rdN xs (i + j)).2.2 ≠ 0
  | 0 => h
  | j + 1 => by
    have ih := rdN_err h j
    rw [← Nat.add_assoc]
    simp only [rdN, rstep, if_neg ih]
    exact ih
end Go.Proofs.YtgigigchjnnonaaDoor
namespace Go.Proofs.YtgigigchjnnonaaDoor
open Go Go.V
-- 5: pith/pithlaw18.first
-- 19: pith/ckpt.Encode
-- 22: pith/ckpt.Decode
-- 23: pith/ckpt.Name
-- 12: pith/pithlaw18.num
-- 20: pith/pithref.SameBytes
-- 21: pith/pithref.SameByteLists
-- 5: uint8
-- 42: []uint8
-- 49: [][]uint8
-- 4: bool
-- 3: int
-- 28: pith/api.Check

theorem decS_gen {id : Int} {head : List Int} {data : List (List Int)} (h : be head 0 ≠ id) : decS id head data = none := by
  unfold decS
  split
  · cases bspec (be head 8).toNat data with
    | none => rfl
    | some q =>
      obtain ⟨xs, l⟩ := q
      simp only
      cases dspec (be head 12).toNat l with
      | none => rfl
      | some ds =>
        simp only
        rw [if_neg]
        rintro ⟨_, h2, _⟩
        exact h h2
  · rfl
theorem head_wf (gen p : Int) (xs : List Int) (ds : List Bool) : Byt (chkHead gen p xs ds) := by
  intro x hx
  simp only [chkHead, List.mem_append] at hx
  rcases hx with ((h | h) | h) | h <;> exact four_wf _ x h
theorem first_head : chkHead 7 2 [3, 0, 300] [true, false] = [0, 0, 0, 7, 0, 0, 0, 2, 0, 0, 0, 3, 0, 0, 0, 2] := by decide
theorem first_data : chkData [3, 0, 300] [true, false] = [[3, 0, 130, 44], [1, 0]] := by
  have v3 : vput 3 = [3] := by rw [vput, show max (3 : Int) 0 = 3 from rfl, vlen_lt (by decide)]; rfl
  have v0 : vput 0 = [0] := by rw [vput, show max (0 : Int) 0 = 0 from rfl, vlen_lt (by decide)]; rfl
  have v300 : vput 300 = [130, 44] := by rw [vput, show max (300 : Int) 0 = 300 from rfl, vlen_ge (by decide), show (300 : Int) / 128 = 2 from rfl, vlen_lt (by decide)]; rfl
  simp only [chkData, pieces_cons (xs := [3, 0, 300]) (by decide), List.take, List.drop, pieces_nil, List.flatMap_cons, List.flatMap_nil, v3, v0, v300]
  rfl
theorem first_name : ((nameS 7).toList == (⟨#[99, 107, 112, 116, 46, 55]⟩ : ByteArray).toList) = true := by
  rw [toList_data, toList_data]
  have : Lib.itoa 7 = [55] := by simp [Lib.itoa, Lib.decDigits]
  rw [nameS, this]
  rfl

set_option maxHeartbeats 1600000 in
set_option maxRecDepth 20000 in
theorem F5 (H : Heap) (ht : Tab H) : Fun Tryd.prog 5 #[] H (fun r H' => r = .bool true ∧ Ext H H') := by
  refine fun_of mixed (args := []) Tryd.func5 Tryd.ntmps5 b5 r5 rfl ?_
  simp only [go_sem, ↓reduceIte, Nat.reduceEqDiff, Nat.reduceLeDiff, Nat.reduceAdd, Nat.reduceMul, Nat.reduceSub, Nat.reduceBEq, Nat.reduceGT, Nat.reduceLT, Int.reduceLE, Int.reduceLT, Int.reduceNeg, reduceCtorEq]
  have sz1 : (H.push (Obj.cells #[Value.int .i64 3, .int .i64 0, .int .i64 300] 3)).size = H.size + 1 := by simp
  have hx0 : Ext H ((H.push (Obj.cells #[Value.int .i64 3, .int .i64 0, .int .i64 300] 3)).push (Obj.cells #[.bool true, .bool false] 4)) := (Ext.push _).trans ((Ext.push _).mono (by simp))
  have hc : Chk ((H.push (Obj.cells #[Value.int .i64 3, .int .i64 0, .int .i64 300] 3)).push (Obj.cells #[.bool true, .bool false] 4)) 3 4 (.agg #[.int .i64 2, .slice (some ⟨H.size, 0, none⟩) 3 3, .slice (some ⟨(H.push (Obj.cells #[Value.int .i64 3, .int .i64 0, .int .i64 300] 3)).size, 0, none⟩) 2 2]) 2 [3, 0, 300] [true, false] :=
    ⟨_, _, rfl, Sl.ext (Sl.new (sz := 1) (n := 3) rfl) (Ext.push _), Sl.new (sz := 1) (n := 2) rfl⟩
  refine FunI.by (F19 _ 7 2 [3, 0, 300] [true, false] _ hc) ?_
  rintro r H1 ⟨hx1, hr⟩
  rcases hr with ⟨h, _⟩ | ⟨_, h, l, rfl, hh, hl⟩
  · exact absurd h (by decide)
  rw [first_head] at hh
  rw [first_data] at hl
  have w1 : Byt [0, 0, 0, 7, 0, 0, 0, 2, 0, 0, 0, 3, 0, 0, 0, 2] := by unfold Byt; decide
  have w2 : ∀ l ∈ ([[3, 0, 130, 44], [1, 0]] : List (List Int)), Byt l := by unfold Byt; decide
  have hhi : Ints H1 5 .u8 h [0, 0, 0, 7, 0, 0, 0, 2, 0, 0, 0, 3, 0, 0, 0, 2] := hh.sl
  simp only [go_sem, ↓reduceIte, Nat.reduceEqDiff, Nat.reduceLeDiff, Nat.reduceAdd, Nat.reduceMul, Nat.reduceSub, Nat.reduceBEq, Nat.reduceGT, Nat.reduceLT, Int.reduceLE, Int.reduceLT, Int.reduceNeg, reduceCtorEq]
  refine FunI.by (F20 h _ _ _ _ (hhi.ext (Ext.push _)) (show Ints _ 5 .u8 _ [0, 0, 0, 7, 0, 0, 0, 2, 0, 0, 0, 3, 0, 0, 0, 2] from Sl.new (sz := 1) (n := 16) rfl) w1 w1) ?_
  rintro _ _ ⟨rfl, rfl⟩
  simp only [go_sem, ↓reduceIte, Nat.reduceEqDiff, Nat.reduceLeDiff, Nat.reduceAdd, Nat.reduceMul, Nat.reduceSub, Nat.reduceBEq, Nat.reduceGT, Nat.reduceLT, Int.reduceLE, Int.reduceLT, Int.reduceNeg, reduceCtorEq]
  have hx2 : Ext H1 (H1.push (Obj.cells #[Value.int .u8 0, .int .u8 0, .int .u8 0, .int .u8 7, .int .u8 0, .int .u8 0, .int .u8 0, .int .u8 2, .int .u8 0, .int .u8 0, .int .u8 0, .int .u8 3, .int .u8 0, .int .u8 0, .int .u8 0, .int .u8 2] 5)) := Ext.push _
  have hxa : Ext H (H1.push (Obj.cells #[Value.int .u8 0, .int .u8 0, .int .u8 0, .int .u8 7, .int .u8 0, .int .u8 0, .int .u8 0, .int .u8 2, .int .u8 0, .int .u8 0, .int .u8 0, .int .u8 3, .int .u8 0, .int .u8 0, .int .u8 0, .int .u8 2] 5)) := hx0.trans ((hx1.mono hx0.size).trans (hx2.mono (Nat.le_trans hx0.size hx1.size)))
  replace hhi := hhi.ext hx2
  have hll := hl.lists.ext hx2
  generalize H1.push (Obj.cells #[Value.int .u8 0, .int .u8 0, .int .u8 0, .int .u8 7, .int .u8 0, .int .u8 0, .int .u8 0, .int .u8 2, .int .u8 0, .int .u8 0, .int .u8 0, .int .u8 3, .int .u8 0, .int .u8 0, .int .u8 0, .int .u8 2] 5) = H2 at *
  have e3 : Ext H2 (H2.push (Obj.cells #[Value.int .u8 3, .int .u8 0, .int .u8 130, .int .u8 44] 5)) := Ext.push _
  have e4 : Ext H2 ((H2.push (Obj.cells #[Value.int .u8 3, .int .u8 0, .int .u8 130, .int .u8 44] 5)).push (Obj.cells #[Value.int .u8 1, .int .u8 0] 5)) := e3.trans ((Ext.push _).mono e3.size)
  have e5 : ∀ x, Ext H2 (((H2.push (Obj.cells #[Value.int .u8 3, .int .u8 0, .int .u8 130, .int .u8 44] 5)).push (Obj.cells #[Value.int .u8 1, .int .u8 0] 5)).push x) := fun x => e4.trans ((Ext.push _).mono e4.size)
  refine FunI.by (F21 l _ [[3, 0, 130, 44], [1, 0]] [[3, 0, 130, 44], [1, 0]] _ (hll.ext (e5 _)) ?_ w2 w2 (by decide)) ?_
  · refine ⟨_, Sl.new (sz := 1) (n := 2) rfl, ?_, ?_, trivial⟩
    · exact Sl.ext (Sl.ext (Sl.new (sz := 1) (n := 4) rfl) (Ext.push _)) (Ext.push _)
    · exact Sl.ext (Sl.new (sz := 1) (n := 2) rfl) (Ext.push _)
  rintro _ _ ⟨rfl, rfl⟩
  simp only [go_sem, ↓reduceIte, Nat.reduceEqDiff, Nat.reduceLeDiff, Nat.reduceAdd, Nat.reduceMul, Nat.reduceSub, Nat.reduceBEq, Nat.reduceGT, Nat.reduceLT, Int.reduceLE, Int.reduceLT, Int.reduceNeg, reduceCtorEq]
  have hxb := hxa.trans ((e5 (Obj.cells #[.slice (some ⟨H2.size, 0, none⟩) 4 4, .slice (some ⟨(H2.push (Obj.cells #[Value.int .u8 3, .int .u8 0, .int .u8 130, .int .u8 44] 5)).size, 0, none⟩) 2 2] 42)).mono hxa.size)
  replace hhi := hhi.ext (e5 (Obj.cells #[.slice (some ⟨H2.size, 0, none⟩) 4 4, .slice (some ⟨(H2.push (Obj.cells #[Value.int .u8 3, .int .u8 0, .int .u8 130, .int .u8 44] 5)).size, 0, none⟩) 2 2] 42))
  replace hll := hll.ext (e5 (Obj.cells #[.slice (some ⟨H2.size, 0, none⟩) 4 4, .slice (some ⟨(H2.push (Obj.cells #[Value.int .u8 3, .int .u8 0, .int .u8 130, .int .u8 44] 5)).size, 0, none⟩) 2 2] 42))
  generalize ((H2.push (Obj.cells #[Value.int .u8 3, .int .u8 0, .int .u8 130, .int .u8 44] 5)).push (Obj.cells #[Value.int .u8 1, .int .u8 0] 5)).push (Obj.cells #[.slice (some ⟨H2.size, 0, none⟩) 4 4, .slice (some ⟨(H2.push (Obj.cells #[Value.int .u8 3, .int .u8 0, .int .u8 130, .int .u8 44] 5)).size, 0, none⟩) 2 2] 42) = H3 at *
  refine FunI.by (F22 8 h l [0, 0, 0, 7, 0, 0, 0, 2, 0, 0, 0, 3, 0, 0, 0, 2] [[3, 0, 130, 44], [1, 0]] H3 hhi w1 hll (fun xs hxs => ⟨w2 _ hxs, (show ∀ xs ∈ ([[3, 0, 130, 44], [1, 0]] : List (List Int)), xs.length ≤ 140737488350000 by decide) xs hxs⟩) (by decide)) ?_
  rintro r H4 hd
  rw [decS_gen (by decide)] at hd
  obtain ⟨hx4, rfl⟩ := hd
  have hxc := hxb.trans (hx4.mono hxb.size)
  simp only [go_sem, ↓reduceIte, Nat.reduceEqDiff, Nat.reduceLeDiff, Nat.reduceAdd, Nat.reduceMul, Nat.reduceSub, Nat.reduceBEq, Nat.reduceGT, Nat.reduceLT, Int.reduceLE, Int.reduceLT, Int.reduceNeg, reduceCtorEq]
  refine ⟨rfl, hcan_of push_new (by simp), ?_⟩
  rw [hput_push rfl]
  have hxd := hxc.trans ((Ext.push (Obj.cells #[Value.int .i64 0, .slice none 0 0, .slice none 0 0] 28)).mono hxc.size)
  rw [show [Value.int .i64 0, .slice none 0 0, .slice none 0 0].toArray = #[Value.int .i64 0, .slice none 0 0, .slice none 0 0] from rfl]
  generalize H4.push (Obj.cells #[Value.int .i64 0, .slice none 0 0, .slice none 0 0] 28) = H5 at *
  refine FunI.by (F12 0 H5) ?_
  rintro _ _ ⟨rfl, rfl⟩
  simp only [go_sem, ↓reduceIte, Nat.reduceEqDiff, Nat.reduceLeDiff, Nat.reduceAdd, Nat.reduceMul, Nat.reduceSub, Nat.reduceBEq, Nat.reduceGT, Nat.reduceLT, Int.reduceLE, Int.reduceLT, Int.reduceNeg, reduceCtorEq]
  refine FunI.by (F12 90 H5) ?_
  rintro _ _ ⟨rfl, rfl⟩
  simp only [go_sem, ↓reduceIte, Nat.reduceEqDiff, Nat.reduceLeDiff, Nat.reduceAdd, Nat.reduceMul, Nat.reduceSub, Nat.reduceBEq, Nat.reduceGT, Nat.reduceLT, Int.reduceLE, Int.reduceLT, Int.reduceNeg, reduceCtorEq]
  refine FunI.by (F23 7 H5 (ht.ext hxd) (by decide) (by decide)) ?_
  rintro _ H6 ⟨rfl, hx6⟩
  simp only [go_sem, ↓reduceIte, Nat.reduceEqDiff, Nat.reduceLeDiff, Nat.reduceAdd, Nat.reduceMul, Nat.reduceSub, Nat.reduceBEq, Nat.reduceGT, Nat.reduceLT, Int.reduceLE, Int.reduceLT, Int.reduceNeg, reduceCtorEq, first_name]
  exact hxd.trans (hx6.mono hxd.size)
end Go.Proofs.YtgigigchjnnonaaDoor
namespace Go.Proofs.YtgigigchjnnonaaDoor
open Go Go.V




-- 20: pith/pithref.SameBytes
-- 21: pith/pithref.SameByteLists
-- 5: uint8
-- 42: []uint8
-- 49: [][]uint8
-- 4: bool
-- 23: []bool
-- 3: int
-- 28: pith/api.Check

/-- The bits that the last payload is read as. -/
def bitsOf (l : List (List Int)) : List Bool := (l.getD 0 []).map fun x => decide (x = 1)
/-- What the reference Decode answers. -/
def rdecS (id : Int) (head : List Int) (data : List (List Int)) : Option (Int × List Int × List Bool) :=
  if head.length = 16 ∧ be head 8 ≤ 16777216 ∧ be head 12 ≤ 1000 ∧ be head 8 ≤ data.length * 200 then
    match espec (be head 8).toNat data with
    | none => none
    | some (xs, l) => if l.length ≤ 1 ∧ mayC id (be head 4) xs (bitsOf l) = true ∧ chkHead id (be head 4) xs (bitsOf l) = head ∧ chkData xs (bitsOf l) = data ∧ be head 12 = (bitsOf l).length then some (be head 4, xs, bitsOf l) else none
  else none

theorem espec_len : ∀ (l : List (List Int)) (n : Nat) {xs : List Int} {r : List (List Int)}, espec n l = some (xs, r) → xs.length = n
  | _, 0, xs, r, h => by rw [espec_zero] at h; cases h; rfl
  | [], n + 1, xs, r, h => by rw [espec_nil (by omega)] at h; cases h
  | y :: l, n + 1, xs, r, h => by
    rw [espec_cons (by omega)] at h
    split at h
    · obtain ⟨q, hq, he⟩ := Option.map_eq_some_iff.1 h
      have := espec_len l _ (xs := q.1) (r := q.2) hq
      cases he
      rw [List.length_append, rdN_len, this]
      omega
    · cases h
theorem take4 {xs : List Int} {l : Nat} (h : l + 4 ≤ xs.length) : (xs.drop l).take 4 = [xs.getD l 0, xs.getD (l + 1) 0, xs.getD (l + 2) 0, xs.getD (l + 3) 0] := by
  apply List.ext_getElem?
  intro i
  rw [List.getElem?_take]
  split
  · rename_i hi
    have : i = 0 ∨ i = 1 ∨ i = 2 ∨ i = 3 := by omega
    have g : ∀ j, j < xs.length → xs[j]? = some (xs.getD j 0) := fun j hj => by rw [List.getD_eq_getElem?_getD, List.getElem?_eq_getElem hj]; rfl
    rcases this with rfl | rfl | rfl | rfl <;> simp only [List.getElem?_drop, List.getElem?_cons_zero, List.getElem?_cons_succ] <;> exact g _ (by omega)
  · rw [List.getElem?_eq_none]
    simp; omega
theorem ints_four {H : Heap} {e : TypeId} {k : IntKind} {a : Option Addr} {len cap : Nat} {xs : List Int} (hh : Ints H e k (.slice a len cap) xs) {l : Nat} (h : l + 4 ≤ len) (h0 : l ≠ 0) :
    Ints H e k (.slice (if cap = l then a else a.map fun x => { block := x.block, off := x.off + l }) 4 (cap - l)) [xs.getD l 0, xs.getD (l + 1) 0, xs.getD (l + 2) 0, xs.getD (l + 3) 0] := by
  have hl := hh.length
  have h1 := Sl.sub (l := l) (h := l + 4) (m := cap) hh (by omega) h (by have := Sl.lecap hh; omega)
  rw [Nat.mul_one, Nat.mul_one, Nat.add_sub_cancel_left, ← List.map_drop, ← List.map_take, take4 (by omega)] at h1
  have e1 : (fun x : Addr => x.add l) = fun x => { block := x.block, off := x.off + l } := by
    funext x
    rw [Addr.add, if_neg h0]
  rw [e1] at h1
  exact h1
theorem bef {xs : List Int} (l : Nat) : xs.getD l 0 * 16777216 + xs.getD (l + 1) 0 * 65536 + xs.getD (l + 2) 0 * 256 + xs.getD (l + 3) 0 = be xs l := rfl
theorem byt4 {xs : List Int} (hw : Byt xs) {l : Nat} (h : l + 4 ≤ xs.length) : Byt [xs.getD l 0, xs.getD (l + 1) 0, xs.getD (l + 2) 0, xs.getD (l + 3) 0] := by
  rw [← take4 h]
  exact fun x hx => hw x (List.mem_of_mem_drop (List.mem_of_mem_take hx))

end Go.Proofs.YtgigigchjnnonaaDoor
namespace Go.Proofs.YtgigigchjnnonaaDoor
open Go Go.V

/-- The form of one number: all but the last byte have the high bit. -/
def Form : List Int → Prop
  | [] => False
  | [y] => 0 ≤ y ∧ y < 128
  | y :: z :: r => (128 ≤ y ∧ y < 256) ∧ Form (z :: r)
theorem vval_cons (y : Int) (r : List Int) : vval (y :: r) = (y % 128) * 128 ^ r.length + vval r := by
  have key : ∀ (r : List Int) (a : Int), r.foldl (fun a x => a * 128 + x % 128) a = a * 128 ^ r.length + r.foldl (fun a x => a * 128 + x % 128) 0 := by
    intro r
    induction r with
    | nil => intro a; simp
    | cons z r ih =>
      intro a
      rw [List.foldl_cons, List.foldl_cons, ih, ih (0 * 128 + z % 128), List.length_cons, Int.pow_succ]
      rw [Int.add_mul, Int.zero_mul, Int.zero_add, Int.add_assoc]
      congr 1
      rw [Int.mul_assoc, Int.mul_comm 128]
  unfold vval
  rw [List.foldl_cons, key]
  simp
theorem p128 (n : Nat) : (0 : Int) < 128 ^ n := Int.pow_pos (by omega)
/-- x in base 128. -/
theorem vtail_eq : ∀ {ys : List Int}, Form ys → ∀ {x q : Int}, x = q * 128 ^ ys.length + vval ys → vtail x ys.length = ys
  | [y], h, x, q, hx => by
    obtain ⟨h0, h1⟩ := h
    have hv : vval [y] = y := by simp [vval]; omega
    rw [hv] at hx
    simp only [List.length_singleton, Int.pow_one] at hx
    simp only [List.length_singleton, vtail, if_true, Int.pow_zero, Int.ediv_one]
    congr 1
    omega
  | y :: z :: r, ⟨⟨h0, h1⟩, hf⟩, x, q, hx => by
    rw [vval_cons, List.length_cons, Int.pow_succ] at hx
    have hb := vval_lt (z :: r)
    have hp := p128 (z :: r).length
    have hx2 : x = (q * 128 + y % 128) * 128 ^ (z :: r).length + vval (z :: r) := by
      rw [hx, Int.add_mul, Int.mul_assoc q, Int.mul_comm 128, ← Int.add_assoc]
    have ih := vtail_eq hf hx2
    have hd : x / 128 ^ (z :: r).length = q * 128 + y % 128 := by
      rw [hx2, Int.add_comm, Int.add_mul_ediv_right _ _ (by omega), Int.ediv_eq_zero_of_lt hb.1 hb.2, Int.zero_add]
    rw [List.length_cons, vtail, ih, hd, if_neg (by simp)]
    congr 1
    omega
theorem vlen_pow : ∀ (n : Nat) {x : Int}, (n = 0 ∨ 128 ^ n ≤ x) → x < 128 ^ (n + 1) → vlen x = n + 1
  | 0, x, _, h => vlen_lt (by simp at h; omega)
  | n + 1, x, h0, h1 => by
    have h0 : (128 : Int) ^ (n + 1) ≤ x := h0.resolve_left (by omega)
    have hp := p128 n
    rw [Int.pow_succ] at h0 h1
    have hp1 := p128 (n + 1)
    have h128 : 128 ≤ x := by omega
    rw [vlen_ge h128, vlen_pow n (x := x / 128) ?_ (by omega)]
    exact .inr (by omega)
theorem form_len {ys : List Int} (h : Form ys) : 0 < ys.length := by
  cases ys with
  | nil => exact h.elim
  | cons y ys => simp
/-- A form whose first byte is not 128 is the form of its value. -/
theorem vput_vval {ys : List Int} (h : Form ys) (hh : ys.head? ≠ some 128) : vput (vval ys) = ys := by
  have hb := vval_lt ys
  have hm : max (vval ys) 0 = vval ys := Int.max_eq_left hb.1
  have hl := form_len h
  have hv : vlen (vval ys) = ys.length := by
    have := vlen_pow (ys.length - 1) (x := vval ys) ?_ (by rw [show ys.length - 1 + 1 = ys.length by omega]; exact hb.2)
    · omega
    · match ys, h, hh with
      | [y], _, _ => exact .inl rfl
      | y :: z :: r, h, hh =>
        right
        rw [vval_cons]
        obtain ⟨⟨h0, h1⟩, _⟩ := h
        have hr := vval_lt (z :: r)
        have hp := p128 (z :: r).length
        have hy : y ≠ 128 := by simpa using hh
        have hy1 : 1 ≤ y % 128 := by omega
        have := Int.mul_le_mul_of_nonneg_right hy1 (Int.le_of_lt hp)
        simp only [List.length_cons, Nat.add_sub_cancel] at *
        omega
  rw [vput, hm, hv]
  exact vtail_eq h (q := 0) (by simp)
theorem vtail_form (x : Int) : ∀ n, Form (vtail x (n + 1))
  | 0 => by simp only [vtail, if_true, Form]; omega
  | n + 1 => by
    have := vtail_form x n
    show Form (((x / 128 ^ (n + 1)) % 128 + if n + 1 = 0 then 0 else 128) :: vtail x (n + 1))
    rw [if_neg (by omega)]
    cases h : vtail x (n + 1) with
    | nil => rw [h] at this; exact this.elim
    | cons z r =>
      rw [h] at this
      exact ⟨by omega, this⟩
theorem vval_vtail {x : Int} : ∀ n, ∃ q, x = q * 128 ^ n + vval (vtail x n)
  | 0 => ⟨x, by simp [vtail, vval]⟩
  | n + 1 => by
    obtain ⟨q, hq⟩ := vval_vtail (x := x) n
    have hb := vval_lt (vtail x n)
    rw [vtail_len] at hb
    have hp := p128 n
    have hd : x / 128 ^ n = q := by
      conv => lhs; rw [hq]
      rw [Int.add_comm, Int.add_mul_ediv_right _ _ (by omega), Int.ediv_eq_zero_of_lt hb.1 hb.2, Int.zero_add]
    refine ⟨q / 128, ?_⟩
    rw [vtail, vval_cons, vtail_len, hd]
    have he : (q % 128 + if n = 0 then 0 else 128) % 128 = q % 128 := by split <;> omega
    rw [he, Int.pow_succ]
    have h1 : q = q / 128 * 128 + q % 128 := by omega
    have h2 : q * 128 ^ n = (q / 128 * 128 + q % 128) * 128 ^ n := by rw [← h1]
    rw [Int.add_mul] at h2
    rw [Int.mul_comm (128 ^ n) 128, ← Int.mul_assoc]
    omega
theorem vlen_pow' {x : Int} (h0 : 0 ≤ x) : ∀ n, x < 128 ^ (n + 1) → ∃ m, m ≤ n ∧ vlen x = m + 1 ∧ (m = 0 ∨ 128 ^ m ≤ x) ∧ x < 128 ^ (m + 1)
  | 0, h => ⟨0, by omega, vlen_pow 0 (.inl rfl) h, .inl rfl, h⟩
  | n + 1, h => by
    by_cases hx : x < 128 ^ (n + 1)
    · obtain ⟨m, h1, h2⟩ := vlen_pow' h0 n hx
      exact ⟨m, by omega, h2⟩
    · exact ⟨n + 1, by omega, vlen_pow (n + 1) (.inr (by omega)) h, .inr (by omega), h⟩
theorem form_get : ∀ {ys : List Int}, Form ys → ∀ rest, (∀ k, k < ys.length - 1 → 128 ≤ (ys ++ rest).getD k 0) ∧ (ys ++ rest).getD (ys.length - 1) 0 < 128
  | [y], h, rest => by
    refine ⟨fun k hk => by simp at hk, ?_⟩
    simpa using h.2
  | y :: z :: r, ⟨h0, hf⟩, rest => by
    obtain ⟨h1, h2⟩ := form_get hf rest
    refine ⟨fun k hk => ?_, ?_⟩
    · cases k with
      | zero => simpa using h0.1
      | succ k =>
        have := h1 k (by simp at hk ⊢; omega)
        simpa using this
    · simpa using h2
/-- What was put is read back. -/
theorem vform_vput {x : Int} (h0 : 0 ≤ x) (h1 : x < 9223372036854775808) (rest : List Int) : vform (vput x ++ rest) = (x, ((vput x).length : Int), 0) := by
  obtain ⟨m, hm, hl, hlo, hhi⟩ := vlen_pow' h0 8 h1
  have hmax : max x 0 = x := Int.max_eq_left h0
  have hput : vput x = vtail x (m + 1) := by rw [vput, hmax, hl]
  have hf := vtail_form x m
  have hlen := vtail_len x (m + 1)
  have hval : vval (vtail x (m + 1)) = x := by
    obtain ⟨q, hq⟩ := vval_vtail (x := x) (m + 1)
    have hb := vval_lt (vtail x (m + 1))
    rw [hlen] at hb
    have hp := p128 (m + 1)
    have hq0 : q = 0 := by
      have h2 : x / 128 ^ (m + 1) = q := by
        conv => lhs; rw [hq]
        rw [Int.add_comm, Int.add_mul_ediv_right _ _ (by omega), Int.ediv_eq_zero_of_lt hb.1 hb.2, Int.zero_add]
      rw [← h2]
      exact Int.ediv_eq_zero_of_lt h0 hhi
    rw [hq0] at hq
    omega
  rw [hput]
  obtain ⟨g1, g2⟩ := form_get hf rest
  rw [hlen, Nat.add_sub_cancel] at g1 g2
  have hlead : lead 9 (vtail x (m + 1) ++ rest) = m := lead_eq g1 (.inr (.inr g2)) (by omega) (by simp [hlen]; omega)
  have hh : (vtail x (m + 1) ++ rest).head? ≠ some 128 := by
    rcases hlo with rfl | hlo
    · simp only [vtail, if_true, Int.pow_zero, Int.ediv_one, List.cons_append, List.head?_cons, ne_eq, Option.some.injEq]
      omega
    · have hp := p128 m
      have hd1 : 1 ≤ x / 128 ^ m := by rw [Int.le_ediv_iff_mul_le hp]; omega
      have hd2 : x / 128 ^ m < 128 := by rw [Int.ediv_lt_iff_lt_mul hp, Int.mul_comm, ← Int.pow_succ]; exact hhi
      simp only [vtail, List.cons_append, List.head?_cons, ne_eq, Option.some.injEq]
      split <;> omega
  unfold vform
  rw [if_neg hh, hlead, if_neg (by omega), if_neg (by simp [hlen]; omega)]
  have ht : (vtail x (m + 1) ++ rest).take (m + 1) = vtail x (m + 1) := by
    rw [List.take_append_of_le_length (by omega), List.take_of_length_le (by omega)]
  rw [ht, hval, hlen]
  rfl
theorem lead_form : ∀ (n : Nat) {ys : List Int}, Byt ys → lead n ys < n → lead n ys < ys.length → Form (ys.take (lead n ys + 1))
  | 0, ys, _, h, _ => by omega
  | n + 1, [], _, _, h => by simp at h
  | n + 1, y :: ys, hw, h1, h2 => by
    have hy := hw y (by simp)
    have hw' : Byt ys := fun z hz => hw z (by simp [hz])
    simp only [lead] at h1 h2 ⊢
    by_cases h128 : 128 ≤ y
    · rw [if_pos h128] at h1 h2 ⊢
      have ih := lead_form n hw' (by omega) (by simp at h2; omega)
      rw [List.take_succ_cons]
      cases ht : ys.take (lead n ys + 1) with
      | nil => rw [ht] at ih; exact ih.elim
      | cons z r =>
        rw [ht] at ih
        exact ⟨⟨h128, hy.2⟩, ih⟩
    · rw [if_neg h128]
      exact ⟨hy.1, by omega⟩
/-- What is taken is what is put. -/
theorem vform_canon {ys : List Int} (hw : Byt ys) (h : (vform ys).2.2 = 0) : ys.take (vform ys).2.1.toNat = vput (vform ys).1 ∧ 0 ≤ (vform ys).1 := by
  unfold vform at h ⊢
  split
  · rename_i h1; rw [if_pos h1] at h; simp at h
  · rename_i h1
    rw [if_neg h1] at h
    split
    · rename_i h2; rw [if_pos h2] at h; simp at h
    · rename_i h2
      rw [if_neg h2] at h
      split
      · rename_i h3; rw [if_pos h3] at h; simp at h
      · rename_i h3
        have hle := lead_le 9 ys
        have hf := lead_form 9 hw (by omega) (by omega)
        refine ⟨?_, (vval_lt _).1⟩
        simp only
        rw [show ((lead 9 ys : Int) + 1).toNat = lead 9 ys + 1 by omega]
        refine (vput_vval hf ?_).symm
        rw [List.head?_take]
        simpa using h1
end Go.Proofs.YtgigigchjnnonaaDoor
namespace Go.Proofs.YtgigigchjnnonaaDoor
open Go Go.V

theorem byt_drop {xs : List Int} (h : Byt xs) (n : Nat) : Byt (xs.drop n) := fun x hx => h x (List.mem_of_mem_drop hx)
theorem rdN_le (xs : List Int) : ∀ k, (rdN xs k).2.1 ≤ xs.length
  | 0 => Nat.zero_le _
  | k + 1 => rstep_le (rdN_le xs k)
/-- Numbers read without an error are what was put. -/
theorem rdN_canon {ys : List Int} (hw : Byt ys) : ∀ k, (rdN ys k).2.2 = 0 → ys.take (rdN ys k).2.1 = (rdN ys k).1.flatMap vput ∧ ∀ v ∈ (rdN ys k).1, 0 ≤ v
  | 0, _ => by simp [rdN]
  | k + 1, h => by
    have hk : (rdN ys k).2.2 = 0 := by
      rcases Int.decEq (rdN ys k).2.2 0 with hn | hn
      · exact absurd h (rdN_err hn 1)
      · exact hn
    obtain ⟨ih, ihn⟩ := rdN_canon hw k hk
    have hp := rdN_le ys k
    simp only [rdN, rstep, rval, if_pos hk] at h ⊢
    obtain ⟨h1, h2⟩ := vform_canon (byt_drop hw (rdN ys k).2.1) h
    refine ⟨?_, ?_⟩
    · rw [List.take_add, ih, h1]
      simp
    · intro v hv
      rcases List.mem_append.1 hv with hv | hv
      · exact ihn v hv
      · rw [List.mem_singleton.1 hv]; exact h2
/-- What was put is read back. -/
theorem rdN_put (xs : List Int) (hx : ∀ x ∈ xs, 0 ≤ x ∧ x < 9223372036854775808) : ∀ k, k ≤ xs.length → rdN (xs.flatMap vput) k = (xs.take k, (((xs.take k).flatMap vput).length, 0))
  | 0, _ => by simp [rdN]
  | k + 1, h => by
    have ih := rdN_put xs hx k (by omega)
    have hk : k < xs.length := by omega
    have hxk := hx _ (mem_getD (xs := xs) hk 0)
    have hsplit : xs.flatMap vput = (xs.take k).flatMap vput ++ (vput (xs.getD k 0) ++ (xs.drop (k + 1)).flatMap vput) := by
      conv => lhs; rw [← List.take_append_drop k xs]
      rw [List.flatMap_append]
      congr 1
      rw [List.drop_eq_getElem_cons hk, List.flatMap_cons]
      congr 2
      simp [List.getD_eq_getElem?_getD, List.getElem?_eq_getElem hk]
    have hdrop : (xs.flatMap vput).drop ((xs.take k).flatMap vput).length = vput (xs.getD k 0) ++ (xs.drop (k + 1)).flatMap vput := by
      rw [hsplit, List.drop_left]
    have hv := vform_vput hxk.1 hxk.2 ((xs.drop (k + 1)).flatMap vput)
    simp only [rdN, ih, rstep, rval, if_true, hdrop, hv]
    rw [take_succ_getD hk 0]
    simp
theorem espec_of_bspec : ∀ (l : List (List Int)) (n : Nat) {xs : List Int} {r : List (List Int)}, bspec n l = some (xs, r) → espec n l = some (xs, r)
  | _, 0, xs, r, h => by rw [bspec_zero] at h; rw [espec_zero]; exact h
  | [], n + 1, xs, r, h => by rw [bspec_nil (by omega)] at h; cases h
  | y :: l, n + 1, xs, r, h => by
    rw [bspec_cons (by omega)] at h
    rw [espec_cons (by omega)]
    split at h
    · rename_i hc
      obtain ⟨q, hq, he⟩ := Option.map_eq_some_iff.1 h
      simp only [clean, decide_eq_true_eq] at hc
      rw [if_pos hc.1, espec_of_bspec l _ (xs := q.1) (r := q.2) hq]
      cases he
      rfl
    · cases h
theorem bspec_len {l : List (List Int)} {n : Nat} {xs : List Int} {r : List (List Int)} (h : bspec n l = some (xs, r)) : xs.length = n := espec_len l n (espec_of_bspec l n h)
theorem pieces_app {a b : List Int} (ha : 0 < a.length) (h : a.length ≤ 200) (hb : a.length = 200 ∨ b = []) : pieces (a ++ b) = a.flatMap vput :: pieces b := by
  rw [pieces_cons (by simp; omega)]
  rcases hb with hb | rfl
  · rw [List.take_append_of_le_length (by omega), List.take_of_length_le (by omega), List.drop_append_of_le_length (by omega), List.drop_of_length_le (by omega), List.nil_append]
  · rw [List.append_nil, List.take_of_length_le (by omega), List.drop_of_length_le (by omega)]
/-- What is taken is what is put. -/
theorem bspec_canon : ∀ (l : List (List Int)) (n : Nat) {xs : List Int} {r : List (List Int)}, (∀ y ∈ l, Byt y) → bspec n l = some (xs, r) → l = pieces xs ++ r ∧ ∀ x ∈ xs, 0 ≤ x
  | l, 0, xs, r, _, h => by
    rw [bspec_zero] at h
    cases h
    simp [pieces_nil]
  | [], n + 1, xs, r, _, h => by rw [bspec_nil (by omega)] at h; cases h
  | y :: l, n + 1, xs, r, hw, h => by
    rw [bspec_cons (by omega)] at h
    split at h
    · rename_i hc
      obtain ⟨⟨a, b⟩, hq, he⟩ := Option.map_eq_some_iff.1 h
      have hlen := bspec_len hq
      obtain ⟨ih, ihn⟩ := bspec_canon l _ (fun z hz => hw z (by simp [hz])) hq
      simp only [clean, decide_eq_true_eq] at hc
      obtain ⟨h1, h2⟩ := rdN_canon (hw y (by simp)) _ hc.1
      have hl := rdN_len y (min 200 (n + 1))
      rw [hc.2, List.take_of_length_le (Nat.le_refl _)] at h1
      have he' : (rdN y (min 200 (n + 1))).1 ++ a = xs ∧ b = r := by simpa using he
      obtain ⟨rfl, rfl⟩ := he'
      refine ⟨?_, ?_⟩
      · rw [pieces_app (by omega) (by omega) ?_, ← h1, ih]
        · rfl
        · by_cases h200 : 200 ≤ n + 1
          · exact .inl (by omega)
          · exact .inr (List.eq_nil_of_length_eq_zero (by omega))
      · intro x hx
        rcases List.mem_append.1 hx with hx | hx
        · exact h2 x hx
        · exact ihn x hx
    · cases h
/-- What was put is read back. -/
theorem bspec_put : ∀ (m : Nat) (xs : List Int) (r : List (List Int)), xs.length ≤ m → (∀ x ∈ xs, 0 ≤ x ∧ x < 9223372036854775808) → bspec xs.length (pieces xs ++ r) = some (xs, r)
  | m, [], r, _, _ => by rw [pieces_nil]; exact bspec_zero
  | 0, x :: xs, r, h, _ => by simp at h
  | m + 1, x :: xs, r, h, hx => by
    obtain ⟨ys, hys⟩ : ∃ ys, ys = x :: xs := ⟨_, rfl⟩
    rw [← hys] at h hx ⊢
    have hl : 0 < ys.length := by rw [hys]; simp
    have hxt : ∀ z ∈ ys.take 200, 0 ≤ z ∧ z < 9223372036854775808 := fun z hz => hx z (List.mem_of_mem_take hz)
    have hr := rdN_put (ys.take 200) hxt (ys.take 200).length (Nat.le_refl _)
    rw [List.take_of_length_le (Nat.le_refl _)] at hr
    have hk : (ys.take 200).length = min 200 ys.length := by simp
    rw [pieces_cons hl, List.cons_append, bspec_cons hl, ← hk, hr, if_pos (by simp [clean])]
    have ih := bspec_put m (ys.drop 200) r (by simp; omega) (fun z hz => hx z (List.mem_of_mem_drop hz))
    rw [List.length_drop] at ih
    rw [show ys.length - (ys.take 200).length = ys.length - 200 by simp; omega, ih]
    simp

theorem four_be {xs : List Int} (hw : Byt xs) {i : Nat} (h : i + 4 ≤ xs.length) : four (be xs i) = (xs.drop i).take 4 := by
  rw [take4 h]
  have h0 := hw _ (mem_getD (xs := xs) (i := i) (by omega) 0)
  have h1 := hw _ (mem_getD (xs := xs) (i := i + 1) (by omega) 0)
  have h2 := hw _ (mem_getD (xs := xs) (i := i + 2) (by omega) 0)
  have h3 := hw _ (mem_getD (xs := xs) (i := i + 3) (by omega) 0)
  unfold four be
  simp only [List.cons.injEq, and_true]
  omega
theorem head_be {xs : List Int} (hw : Byt xs) (h : xs.length = 16) : four (be xs 0) ++ four (be xs 4) ++ four (be xs 8) ++ four (be xs 12) = xs := by
  rw [four_be hw (by omega), four_be hw (by omega), four_be hw (by omega), four_be hw (by omega)]
  have e : ∀ (i : Nat), xs.drop i = (xs.drop i).take 4 ++ xs.drop (i + 4) := fun i => by rw [← List.drop_drop, List.take_append_drop]
  conv => rhs; rw [← List.drop_zero (l := xs), e 0, e 4, e 8, e 12]
  rw [List.drop_of_length_le (i := 12 + 4) (by omega)]
  simp
theorem be_four {a b c d : Int} (ha : 0 ≤ a ∧ a < 4294967296) (hb : 0 ≤ b ∧ b < 4294967296) (hc : 0 ≤ c ∧ c < 4294967296) (hd : 0 ≤ d ∧ d < 4294967296) :
    be (four a ++ four b ++ four c ++ four d) 0 = a ∧ be (four a ++ four b ++ four c ++ four d) 4 = b ∧ be (four a ++ four b ++ four c ++ four d) 8 = c ∧ be (four a ++ four b ++ four c ++ four d) 12 = d := by
  simp only [be, four, List.cons_append, List.nil_append, List.getD_cons_succ, List.getD_cons_zero]
  omega
theorem b2i_bit (bs : List Bool) : ((bs.map b2i).map fun x => decide (x = 1)) = bs := by
  rw [List.map_map]
  conv => rhs; rw [← List.map_id bs]
  apply List.map_congr_left
  intro b _
  cases b <;> rfl
theorem bit_b2i {ys : List Int} (h : ∀ y ∈ ys, 0 ≤ y ∧ y ≤ 1) : (ys.map fun x => decide (x = 1)).map b2i = ys := by
  rw [List.map_map]
  conv => rhs; rw [← List.map_id ys]
  apply List.map_congr_left
  intro y hy
  have := h y hy
  have : y = 0 ∨ y = 1 := by omega
  rcases this with rfl | rfl <;> rfl

theorem mayC_iff {gen p : Int} {xs : List Int} {ds : List Bool} : mayC gen p xs ds = true ↔ (1 ≤ gen ∧ gen ≤ 2147483647 ∧ 0 ≤ p ∧ p ≤ 2147483647 ∧ xs.length ≤ 16777216 ∧ ds.length ≤ 1000 ∧ ∀ x ∈ xs, 0 ≤ x ∧ x < 16777216) := by
  unfold mayC
  rw [decide_eq_true_eq]

theorem pieces_ge : ∀ (m : Nat) (xs : List Int), xs.length ≤ m → xs.length ≤ (pieces xs).length * 200
  | m, [], _ => by simp
  | 0, x :: xs, h => by simp at h
  | m + 1, x :: xs, h => by
    rw [pieces_cons (by simp)]
    have ih := pieces_ge m ((x :: xs).drop 200) (by simp at h ⊢; omega)
    simp at ih ⊢
    omega

/-- Decode just takes what Encode makes. -/
theorem decS_iff {id : Int} {head : List Int} {data : List (List Int)} (hw : Byt head) (hd : ∀ y ∈ data, Byt y) {p : Int} {xs : List Int} {ds : List Bool} :
    decS id head data = some (p, xs, ds) ↔ (mayC id p xs ds = true ∧ chkHead id p xs ds = head ∧ chkData xs ds = data) := by
  constructor
  · intro h
    unfold decS at h
    split at h
    · rename_i hc
      obtain ⟨h16, hn, hn2, hs⟩ := hc
      cases hb : bspec (be head 8).toNat data with
      | none => rw [hb] at h; cases h
      | some q =>
        obtain ⟨a, l⟩ := q
        rw [hb] at h
        simp only at h
        cases hq : dspec (be head 12).toNat l with
        | none => rw [hq] at h; cases h
        | some bs =>
          rw [hq] at h
          simp only at h
          split at h
          · rename_i hm
            obtain ⟨hm, h0, h8, h12⟩ := hm
            have he : be head 4 = p ∧ a = xs ∧ bs = ds := by simpa using h
            obtain ⟨rfl, rfl, rfl⟩ := he
            refine ⟨hm, ?_, ?_⟩
            · rw [chkHead, ← h0, ← h8, ← h12]
              exact head_be hw h16
            · obtain ⟨hdat, _⟩ := bspec_canon data _ hd hb
              rw [chkData]
              conv => rhs; rw [hdat]
              congr 1
              unfold dspec at hq
              split at hq
              · rename_i hz
                split at hq
                · rename_i hl
                  cases hq
                  rw [List.eq_nil_of_length_eq_zero hl]
                  rfl
                · cases hq
              · rename_i hz
                split at hq
                · rename_i hc
                  obtain ⟨hl1, hl2, hle⟩ := hc
                  have hq' : ((l.getD 0 []).map fun x => decide (x = 1)) = bs := by simpa using hq
                  rw [← hq', if_neg (by rw [List.length_map]; omega)]
                  have hl : l = [l.getD 0 []] := by
                    match l, hl1 with
                    | [y], _ => rfl
                  have hin : l.getD 0 [] ∈ data := by
                    rw [hdat]
                    apply List.mem_append_right
                    rw [hl]
                    simp
                  rw [bit_b2i fun y hy => ⟨(hd _ hin y hy).1, hle y hy⟩]
                  exact hl.symm
                · cases hq
          · cases h
    · cases h
  · rintro ⟨hm, rfl, rfl⟩
    obtain ⟨m1, m2, m3, m4, m5, m6, m7⟩ := mayC_iff.1 hm
    obtain ⟨e0, e4, e8, e12⟩ := be_four (a := id) (b := p) (c := xs.length) (d := ds.length) (by omega) (by omega) (by omega) (by omega)
    have hp := pieces_ge _ xs (Nat.le_refl _)
    have hb := bspec_put _ xs (if ds.length = 0 then [] else [ds.map b2i]) (Nat.le_refl _) (fun x hx => by have := m7 x hx; omega)
    unfold decS
    rw [chkHead, e0, e4, e8, e12, if_pos ⟨by simp [four], by omega, by rw [chkData, List.length_append]; omega, by omega⟩, Int.toNat_natCast, chkData, hb]
    simp only [Int.toNat_natCast]
    have hds : dspec ds.length (if ds.length = 0 then [] else [ds.map b2i]) = some ds := by
      unfold dspec
      split
      · rename_i hz
        rw [if_pos (by rfl)]
        exact congrArg some (List.eq_nil_of_length_eq_zero hz).symm
      · rename_i hz
        have hle : ∀ x ∈ ds.map b2i, x ≤ 1 := by
          intro x hx
          obtain ⟨b, _, rfl⟩ := List.mem_map.1 hx
          cases b <;> decide
        rw [if_pos ⟨by simp, by simp, by simpa using hle⟩]
        exact congrArg some (b2i_bit ds)
    rw [hds]
    simp only
    rw [if_pos ⟨hm, trivial, trivial, trivial⟩]
/-- Both decoders answer alike. -/
theorem rdecS_iff {id : Int} {head : List Int} {data : List (List Int)} (hw : Byt head) (hd : ∀ y ∈ data, Byt y) {p : Int} {xs : List Int} {ds : List Bool} :
    rdecS id head data = some (p, xs, ds) ↔ (mayC id p xs ds = true ∧ chkHead id p xs ds = head ∧ chkData xs ds = data) := by
  constructor
  · intro h
    unfold rdecS at h
    split at h
    · cases hb : espec (be head 8).toNat data with
      | none => rw [hb] at h; cases h
      | some q =>
        obtain ⟨a, l⟩ := q
        rw [hb] at h
        simp only at h
        split at h
        · rename_i hm
          have he : be head 4 = p ∧ a = xs ∧ bitsOf l = ds := by simpa using h
          obtain ⟨rfl, rfl, rfl⟩ := he
          exact ⟨hm.2.1, hm.2.2.1, hm.2.2.2.1⟩
        · cases h
    · cases h
  · rintro ⟨hm, rfl, rfl⟩
    obtain ⟨m1, m2, m3, m4, m5, m6, m7⟩ := mayC_iff.1 hm
    obtain ⟨e0, e4, e8, e12⟩ := be_four (a := id) (b := p) (c := xs.length) (d := ds.length) (by omega) (by omega) (by omega) (by omega)
    have hp := pieces_ge _ xs (Nat.le_refl _)
    have hb := espec_of_bspec _ _ (bspec_put _ xs (if ds.length = 0 then [] else [ds.map b2i]) (Nat.le_refl _) (fun x hx => by have := m7 x hx; omega))
    have hbit : bitsOf (if ds.length = 0 then [] else [ds.map b2i]) = ds := by
      split
      · rename_i hz
        rw [List.eq_nil_of_length_eq_zero hz]
        rfl
      · exact b2i_bit ds
    unfold rdecS
    have hch : chkHead id p xs ds = four id ++ four p ++ four xs.length ++ four ds.length := rfl
    rw [hch, e4, e8, e12, if_pos ⟨by simp [four], by omega, by omega, by rw [chkData, List.length_append]; omega⟩, Int.toNat_natCast, chkData, hb]
    simp only [hbit]
    rw [if_pos ⟨by split <;> simp, hm, hch, rfl, trivial⟩]
theorem rdecS_eq {id : Int} {head : List Int} {data : List (List Int)} (hw : Byt head) (hd : ∀ y ∈ data, Byt y) : rdecS id head data = decS id head data := by
  cases h : decS id head data with
  | none =>
    cases h' : rdecS id head data with
    | none => rfl
    | some t =>
      obtain ⟨p, xs, ds⟩ := t
      rw [(decS_iff hw hd).2 ((rdecS_iff hw hd).1 h')] at h
      cases h
  | some t =>
    obtain ⟨p, xs, ds⟩ := t
    exact (rdecS_iff hw hd).2 ((decS_iff hw hd).1 h)
end Go.Proofs.YtgigigchjnnonaaDoor
namespace Go.V
open Go
/-- The power is on, and no operation is armed. -/
structure Peace (s : St) : Prop where
  ok : Ok s
  on : s.off = false
  arm : s.fuse = 0
theorem count_calm {s : St} (h : s.fuse = 0) : countS s = ({ s with ops := s.ops + 1 }, 0) := by
  unfold countS; rw [if_neg (by omega)]
theorem begin_calm {s : St} (h : s.off = false) {n : Nm} (hn : isNm n = true) : beginS s [n] = 0 := by
  unfold beginS; simp [hn, h]
theorem find_calm {s : St} (h : Peace s) {n : Nm} {x : Nat} (hx : s.now n = some x) : findS s n = (some x, 0) := by
  unfold findS
  rw [begin_calm h.on (h.ok.nowN _ _ hx)]
  simp [hx]
theorem append_calm {s : St} (h : Peace s) {n : Nm} {x : Nat} (hx : s.now n = some x) {b : List Int} (hr : (b.length : Int) ≤ s.room - heldS s) :
    appendS s n b = ({ s with ops := s.ops + 1, dat := setF s.dat x (s.dat x ++ b) }, 0) := by
  unfold appendS
  rw [find_calm h hx]
  simp only
  rw [if_neg (by omega)]
  exact count_calm h.arm
theorem sync_calm {s : St} (h : Peace s) {n : Nm} {x : Nat} (hx : s.now n = some x) : syncS s n = ({ s with ops := s.ops + 1, syn := setF s.syn x (s.dat x).length }, 0) := by
  unfold syncS
  rw [find_calm h hx]
  simp only
  rw [count_calm h.arm]
  simp
theorem create_calm {s : St} (h : Peace s) {n : Nm} {x : Nat} (hn : isNm n = true) (hx : s.now n = none) :
    createS s n x = ({ s with ops := s.ops + 1, now := moveD s.now x n, pend := s.pend ++ [(x, n)], held := s.held ++ [x], dat := setF s.dat x [], syn := setF s.syn x 0 }, 0) := by
  unfold createS
  rw [begin_calm h.on hn, hx]
  simp only [ne_eq, not_true, if_false]
  unfold pendS addS
  exact count_calm h.arm
theorem read_calm {s : St} (h : Peace s) {n : Nm} {x : Nat} (hx : s.now n = some x) {a k : Int} (ha : 0 ≤ a) (hk : 0 ≤ k) : readS s n a k = (((s.dat x).drop a.toNat).take k.toNat, 0) := by
  unfold readS
  rw [find_calm h hx]
  simp only
  rw [if_neg (by omega)]
theorem size_calm {s : St} (h : Peace s) {n : Nm} {x : Nat} (hx : s.now n = some x) : sizeS s n = (((s.dat x).length : Int), 0) := by
  unfold sizeS
  rw [find_calm h hx]
theorem setF_same {α : Type} (f : Nat → α) (x : Nat) (v : α) : setF f x v x = v := if_pos rfl
theorem setF_ne {α : Type} (f : Nat → α) (x : Nat) (v : α) {y : Nat} (h : y ≠ x) : setF f x v y = f y := if_neg h
theorem move_same {D : Dir} {x : Nat} {n : Nm} (hn : n ≠ emptyNm) : moveD D x n n = some x := by unfold moveD; rw [if_pos ⟨rfl, hn⟩]
theorem move_ne {D : Dir} {x : Nat} {n m : Nm} (hm : m ≠ n) (hx : D m ≠ some x) : moveD D x n m = D m := by
  unfold moveD; rw [if_neg (fun h => hm h.1), if_neg hx]
theorem isNm_ne {n : Nm} (h : isNm n = true) : n ≠ emptyNm := by
  rintro rfl
  revert h
  decide
end Go.V
namespace Go.Proofs.YtgigigchjnnonaaDoor
open Go Go.V
/-- Frames, one behind the other. -/
def rowB (r : List (Int × List Int)) : List Int := (r.map fun f => encL f.1 f.2).flatten
theorem rowB_snoc (r : List (Int × List Int)) (k : Int) (p : List Int) : rowB (r ++ [(k, p)]) = rowB r ++ encL k p := by simp [rowB]
def fileR (hd : List Int) (data : List (List Int)) : List (Int × List Int) := (1, hd) :: data.map (fun p => (2, p)) ++ [(3, be4 data.length)]
theorem encE_ok {k : Int} {p : List Int} (hk : k = 1 ∨ k = 2 ∨ k = 3) (hp : p.length ≤ 1024) : encE k p = 0 := by
  unfold encE; rw [if_neg (not_not_intro hk), if_neg (by omega)]
/-- A writer in the midst of a file: x is its file, r the frames so far, c the sum of what they hold. -/
structure WrI (s : St) (w : WrS) (x : Nat) (r : List (Int × List Int)) : Prop where
  now : s.now w.name = some x
  dat : s.dat x = rowB r
  size : w.size = (rowB r).length
theorem put_calm {s : St} {w : WrS} {x : Nat} {r : List (Int × List Int)} (h : Peace s) (hw : WrI s w x r) {k : Int} {p : List Int} (hk : k = 1 ∨ k = 2 ∨ k = 3) (hp : p.length ≤ 1024) (hb : Byt p) (hr : (12 + p.length : Int) ≤ s.room - heldS s) :
    ∃ s', putS s w k p = (s', { w with size := w.size + (12 + p.length), sum := if k = 3 then w.sum else crcW w.sum p }, 0) ∧ s' = { s with ops := s.ops + 1, dat := setF s.dat x (rowB (r ++ [(k, p)])) } ∧ Peace s' ∧ heldS s' = heldS s + (12 + p.length) ∧
      WrI s' { w with size := w.size + (12 + p.length), sum := if k = 3 then w.sum else crcW w.sum p } x (r ++ [(k, p)]) := by
  have hx := h.ok.nowH _ _ hw.now
  have ha := append_calm h hw.now (b := encL k p) (by rw [encL_len]; omega)
  rw [hw.dat, ← rowB_snoc] at ha
  have hok := append_ok h.ok w.name (encL_byt (k := k) hb)
  rw [ha] at hok
  refine ⟨_, ?_, rfl, ⟨hok, h.on, h.arm⟩, ?_, ⟨hw.now, setF_same _ _ _, ?_⟩⟩
  · unfold putS
    rw [if_neg (not_not_intro (encE_ok hk hp)), ha, if_neg (by simp)]
  · have := sum_set h.ok hx (rowB (r ++ [(k, p)]))
    have e : heldS { s with ops := s.ops + 1, dat := setF s.dat x (rowB (r ++ [(k, p)])) } = heldS { s with dat := setF s.dat x (rowB (r ++ [(k, p)])) } := rfl
    rw [e, this, hw.dat, rowB_snoc, List.length_append, encL_len]
    omega
  · have := hw.size
    rw [rowB_snoc, List.length_append, encL_len]
    simp only
    omega
theorem decF_enc {k : Int} {p rest : List Int} (hk : k = 1 ∨ k = 2 ∨ k = 3) (hp : p.length ≤ 1024) : decF (encL k p ++ rest) = (k, p, (12 + p.length : Int), 0) := by
  obtain ⟨S0, S1, S2, S3, hS⟩ : ∃ a b c d, be4 (sumI (headB k p.length)) = [a, b, c, d] := ⟨_, _, _, _, rfl⟩
  obtain ⟨Z0, Z1, Z2, Z3, hZ⟩ : ∃ a b c d, be4 (sumI p) = [a, b, c, d] := ⟨_, _, _, _, rfl⟩
  have hH : headL k p.length = [112, k % 256, (p.length : Int) / 256 % 256, (p.length : Int) % 256, S0, S1, S2, S3] := by
    unfold headL; rw [hS]; rfl
  have hL : encL k p ++ rest = 112 :: k % 256 :: (p.length : Int) / 256 % 256 :: (p.length : Int) % 256 :: S0 :: S1 :: S2 :: S3 :: (p ++ ([Z0, Z1, Z2, Z3] ++ rest)) := by
    unfold encL; rw [hH, hZ]; simp
  have ek : k % 256 = k := by omega
  have en : (p.length : Int) / 256 % 256 * 256 + (p.length : Int) % 256 = p.length := by omega
  have h12 : ¬ (encL k p ++ rest).length < 12 := by rw [List.length_append, encL_len]; omega
  unfold decF
  rw [if_neg h12]
  have g1 : (encL k p ++ rest).getD 1 0 = k := by rw [hL]; simpa using ek
  have g2 : (encL k p ++ rest).getD 2 0 * 256 + (encL k p ++ rest).getD 3 0 = p.length := by rw [hL]; simpa using en
  simp only
  rw [g1, g2]
  have t8 : (encL k p ++ rest).take 8 = headL k p.length := by
    unfold encL
    rw [List.append_assoc, List.append_assoc, List.take_append_of_le_length (by rw [headL_len]; omega), List.take_of_length_le (by rw [headL_len]; omega)]
  have d8 : (encL k p ++ rest).drop 8 = p ++ ([Z0, Z1, Z2, Z3] ++ rest) := by rw [hL]; rfl
  have dn : (encL k p ++ rest).drop (8 + (p.length : Int).toNat) = [Z0, Z1, Z2, Z3] ++ rest := by
    rw [← List.drop_drop, d8, show ((p.length : Int)).toNat = p.length by omega, List.drop_left]
  rw [if_neg, if_neg]
  · rw [d8, show ((p.length : Int)).toNat = p.length by omega, List.take_left]
  · rw [dn, d8, show ((p.length : Int)).toNat = p.length by omega, List.take_left, hZ]
    simp
  · rintro (h | h | h | h)
    · exact h hk
    · omega
    · rw [List.length_append, encL_len] at h; omega
    · exact h t8
end Go.Proofs.YtgigigchjnnonaaDoor
namespace Go.Proofs.YtgigigchjnnonaaDoor
open Go Go.V
theorem nextF_enc {s : St} (h : Peace s) {x : RdS} {y : Nat} (hx : s.now x.name = some y) {k : Int} {p rest : List Int} (hd : (s.dat y).drop x.at'.toNat = encL k p ++ rest) (ha : 0 ≤ x.at') (hk : k = 1 ∨ k = 2 ∨ k = 3) (hp : p.length ≤ 1024) :
    nextF s x = ({ x with at' := x.at' + (12 + p.length) }, k, p, 0) := by
  have hr := read_calm h hx (k := 1036) ha (by decide)
  rw [hd] at hr
  have e : (encL k p ++ rest).take (Int.toNat 1036) = encL k p ++ rest.take (1036 - (12 + p.length)) := by
    rw [List.take_append, encL_len, List.take_of_length_le (by rw [encL_len]; show _ ≤ 1036; omega)]
    rfl
  rw [e] at hr
  unfold nextF
  simp only [hr, decF_enc hk hp]
  simp
theorem read_end {s : St} (h : Peace s) {n : Nm} {y : Nat} (hx : s.now n = some y) {a : Int} (ha : 0 ≤ a) (he : (s.dat y).drop a.toNat = []) (k : Int) (hk : 0 ≤ k) : readS s n a k = ([], 0) := by
  rw [read_calm h hx ha hk, he]
  simp
theorem Rest.unique {s : St} : ∀ {x : RdS} {l l' : List (List Int)} {e e' : Int}, Rest s x l e → Rest s x l' e' → l = l' ∧ e = e' := by
  intro x l l' e e' h
  induction h generalizing l' e' with
  | err h1 => intro k; cases k with
    | err k1 => exact ⟨rfl, rfl⟩
    | done k1 k2 => exact absurd k1 h1
    | more k1 k2 k3 => exact absurd k1 h1
  | done h1 h2 => intro k; cases k with
    | err k1 => exact absurd h1 k1
    | done k1 k2 => exact ⟨rfl, rfl⟩
    | more k1 k2 k3 => rw [h2] at k2; cases k2
  | more h1 h2 h3 ih => intro k; cases k with
    | err k1 => exact absurd h1 k1
    | done k1 k2 => rw [h2] at k2; cases k2
    | more k1 k2 k3 => obtain ⟨a, b⟩ := ih k3; exact ⟨by rw [a], b⟩
theorem rowB_cons (k : Int) (p : List Int) (r : List (Int × List Int)) : rowB ((k, p) :: r) = encL k p ++ rowB r := by simp [rowB]
/-- What follows, to the end mark. -/
theorem rest_file {s : St} (h : Peace s) {y : Nat} : ∀ (l : List (List Int)) (x : RdS), s.now x.name = some y → (∀ p ∈ l, p.length ≤ 1024) → 0 ≤ x.at' → x.over = false →
    (s.dat y).drop x.at'.toNat = rowB (l.map (fun p => ((2 : Int), p)) ++ [(3, be4 (x.data + l.length))]) → Rest s x l 0
  | [], x, hx, hl, ha, ho, hd => by
    simp only [List.map_nil, List.nil_append, rowB_cons, List.length_nil] at hd
    have hd' : (s.dat y).drop x.at'.toNat = encL 3 (be4 x.data) ++ [] := by rw [hd]; simp [rowB]
    have hn := nextF_enc h hx hd' ha (by omega) (by simp [be4])
    have hlen : (s.dat y).length ≤ x.at'.toNat + 16 := by
      have := congrArg List.length hd'
      simp only [List.length_drop, List.append_nil, encL_len] at this
      have : (be4 x.data).length = 4 := rfl
      omega
    have hz := read_end h (n := x.name) hx (a := x.at' + (12 + (be4 x.data).length)) (by omega) (by
      apply List.drop_of_length_le
      have : (be4 x.data).length = 4 := rfl
      omega) 1 (by decide)
    have hN : nextR s x = ({ x with at' := x.at' + (12 + (be4 x.data).length), over := true }, [], false, 0) := by
      unfold nextR
      rw [ho, hn]
      simp only [Bool.false_eq_true, if_false, true_and]
      rw [if_neg (by decide)]
      unfold endF
      simp only [hz]
      simp
    have := @Rest.done s x (by rw [hN]) (by rw [hN])
    exact this
  | p :: l, x, hx, hl, ha, ho, hd => by
    simp only [List.map_cons, List.cons_append, rowB_cons] at hd
    have hn := nextF_enc h hx hd ha (by omega) (hl p List.mem_cons_self)
    have hN : nextR s x = ({ x with at' := x.at' + (12 + p.length), data := x.data + 1 }, p, true, 0) := by
      unfold nextR
      rw [ho, hn]
      simp [ho]
    have ih := rest_file h l { x with at' := x.at' + (12 + p.length), data := x.data + 1 } hx (fun q hq => hl q (List.mem_cons_of_mem _ hq)) (by simp only; omega) ho (by
      simp only
      have e : (x.at' + (12 + (p.length : Int))).toNat = x.at'.toNat + (12 + p.length) := by omega
      rw [e, ← List.drop_drop, hd, List.drop_left' (encL_len _ _)]
      rw [show x.data + ((p :: l).length : Int) = x.data + 1 + l.length by simp only [List.length_cons]; omega])
    have := @Rest.more s x l 0 (by rw [hN]) (by rw [hN]) (by rw [hN]; exact ih)
    rw [hN] at this
    exact this
theorem open_file {s : St} (h : Peace s) {n : Nm} {y : Nat} (hx : s.now n = some y) {hd rest : List Int} (hf : s.dat y = encL 1 hd ++ rest) (hl : hd.length ≤ 1024) : openF s n = ({ newR n with at' := 12 + hd.length }, hd, 0) := by
  have hn := nextF_enc h (x := newR n) hx (k := 1) (p := hd) (rest := rest) (by simpa [newR] using hf) (Int.le_refl 0) (by omega) hl
  unfold openF
  simp only [hn]
  simp [newR]
theorem loads_file {s : St} (h : Peace s) {n : Nm} {y : Nat} (hx : s.now n = some y) {hd : List Int} {l : List (List Int)} (hf : s.dat y = rowB (fileR hd l)) (hl : hd.length ≤ 1024) (hll : ∀ p ∈ l, p.length ≤ 1024)
    {hd' : List Int} {l' : List (List Int)} {e : Int} (hL : Loads s n hd' l' e) : hd' = hd ∧ l' = l ∧ e = 0 := by
  have e1 : s.dat y = encL 1 hd ++ rowB (l.map (fun p => ((2 : Int), p)) ++ [(3, be4 ((0 : Int) + l.length))]) := by
    rw [hf, fileR]; simp [rowB]
  have ho := open_file h hx e1 hl
  have hr := rest_file h l { newR n with at' := 12 + hd.length } hx hll (by simp only; omega) rfl (by
    simp only
    have e : (12 + (hd.length : Int)).toNat = 12 + hd.length := by omega
    rw [e, e1, List.drop_left' (encL_len _ _)]
    rfl)
  unfold Loads at hL
  rw [ho] at hL
  simp only at hL
  rw [if_neg (by simp)] at hL
  obtain ⟨l2, e2, h1, rfl, h3⟩ := hL
  obtain ⟨rfl, rfl⟩ := h1.unique hr
  rw [if_neg (by simp)] at h3
  exact ⟨h3.1, h3.2, rfl⟩
end Go.Proofs.YtgigigchjnnonaaDoor
