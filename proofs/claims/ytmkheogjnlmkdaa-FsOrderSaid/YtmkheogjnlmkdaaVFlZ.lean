/- The law FsOrder, over heaps. -/
import Derived.Test.YtmkheogjnlmkdaaVFlG
import Derived.Test.YtmkheogjnlmkdaaVFlY
import Derived.Test.YtmkheogjnlmkdaaVRowG
set_option linter.unusedSimpArgs false
set_option linter.unusedVariables false
set_option maxRecDepth 20000
namespace Go.V
open Go
theorem hput_push0 {H : Heap} {x0 x : Value} {r : List Value} {e : TypeId} : hput (H.push (.cells (x0 :: r).toArray e)) H.size 0 [x] = H.push (.cells (x :: r).toArray e) := by
  unfold hput
  rw [push_new]
  apply Array.ext_getElem?
  intro k
  simp only
  rw [Array.getElem?_setIfInBounds, Array.getElem?_push, Array.getElem?_push]
  by_cases hk : H.size = k
  · subst hk
    rw [if_pos rfl, if_pos (by simp)]
    simp [cput]
  · rw [if_neg hk]
    by_cases hk2 : k = H.size
    · exact absurd hk2.symm hk
    · rw [if_neg hk2, if_neg hk2]
end Go.V
namespace Go.Proofs.Ytmkheogjnlmkdaa
open Go Go.V Go.ChangeShapes Go.WideShapes Go.ChangeAt Go.RowKit
-- 4: pith/pithlaw8.FsOrder
-- 11: pith/pithlaw8.first
-- 12: pith/fs.New
-- 16: pith/pithlaw8.name
-- 23: pith/pithlaw8.named
-- 48: pith/pithref.SameBytes
-- 22: pith/pithlaw8.num
-- 15: pith/pithlaw8.has
-- 14: pith/pithlaw8.does
-- 19: pith/pithlaw8.says
-- 20: (*pith/fs.FS).Append
-- 21: (*pith/fs.FS).Sync
-- 25: (*pith/fs.FS).Crash
-- 24: (*pith/fs.FS).Pending
-- 3: int
-- 30: pithlaw8.Step
-- 5: uint8
-- 9: string
-- 34: []uint8
-- 44: pith/api.File
-- 26: []api.File
theorem take_filter {α : Type} {P : List α} {j : Nat} {p : α} (h : P[j]? = some p) (f : α → Bool) : (P.take (j + 1)).filter f = (P.take j).filter f ++ if f p then [p] else [] := by
  rw [List.take_add_one, h, List.filter_append]
  congr 1
  show [p].filter f = _
  rw [List.filter_cons]
  split <;> rfl
set_option maxHeartbeats 1600000 in
theorem F23 {H : Heap} {N : Nat → Prop} {v tv : Value} {L : List Fl} {tag : List Int} (hv : FilesN H N v L) (hN : ∀ g, N g → g < H.size) (hl : L.length ≤ 1000000) (hLb : ∀ x ∈ L, Byt x.2) (ht : Ints H 5 .u8 tv tag) (htN : ∀ g, blk tv = some g → N g) (htb : Byt tag) (n : Nm) :
    Fun Try.prog 23 #[v, tv, .string n] H (fun r H' => FilesN H' (Gr N H H') r (namedS L tag n) ∧ Ext H H') := by
  obtain ⟨a, c, rfl⟩ := hv.form
  obtain ⟨ta, tc, rfl⟩ := ht.form
  obtain ⟨P, hP, hp⟩ := hv
  have hPl : P.length = L.length := by have := congrArg List.length hP; rw [List.length_map] at this; exact this
  refine fun_of mixed (args := [_, _, _]) Try.func23 Try.ntmps23 b23 r23 rfl ?_
  simp only [go_sem, ↓reduceIte, Nat.reduceEqDiff, Nat.reduceLeDiff, Nat.reduceAdd, Nat.reduceMul, Nat.reduceSub, Nat.reduceBEq, Nat.reduceGT, Nat.reduceLT, Int.reduceLE, Int.reduceLT, Int.reduceNeg, reduceCtorEq]
  refine LoopI.by mixed (fun ρ H' => ∃ (j : Nat) (m : Value), ρ 0 = .slice a L.length c ∧ ρ 1 = .slice ta tag.length tc ∧ ρ 2 = .string n ∧ ρ 7 = m ∧ ρ 8 = .int .i64 j ∧ j ≤ L.length ∧ RecO fileK H' H.size N 44 5 m ((P.take j).filter fun p => decide (¬ p.2.2 = tag ∧ ¬ p.2.1 = n)) ∧ Ext H H') (fun ρ _ => L.length - (iof (ρ 8)).toNat) ?_ ?_
  · exact ⟨0, _, by simp only [go_sem, ↓reduceIte, Nat.reduceEqDiff, Nat.reduceLeDiff, Nat.reduceAdd, Nat.reduceMul, Nat.reduceSub, Nat.reduceBEq, Nat.reduceGT, Nat.reduceLT, Int.reduceLE, Int.reduceLT, Int.reduceNeg, reduceCtorEq], by simp only [go_sem, ↓reduceIte, Nat.reduceEqDiff, Nat.reduceLeDiff, Nat.reduceAdd, Nat.reduceMul, Nat.reduceSub, Nat.reduceBEq, Nat.reduceGT, Nat.reduceLT, Int.reduceLE, Int.reduceLT, Int.reduceNeg, reduceCtorEq], by simp only [go_sem, ↓reduceIte, Nat.reduceEqDiff, Nat.reduceLeDiff, Nat.reduceAdd, Nat.reduceMul, Nat.reduceSub, Nat.reduceBEq, Nat.reduceGT, Nat.reduceLT, Int.reduceLE, Int.reduceLT, Int.reduceNeg, reduceCtorEq], by simp only [go_sem, ↓reduceIte, Nat.reduceEqDiff, Nat.reduceLeDiff, Nat.reduceAdd, Nat.reduceMul, Nat.reduceSub, Nat.reduceBEq, Nat.reduceGT, Nat.reduceLT, Int.reduceLE, Int.reduceLT, Int.reduceNeg, reduceCtorEq] <;> rfl, by simp only [go_sem, ↓reduceIte, Nat.reduceEqDiff, Nat.reduceLeDiff, Nat.reduceAdd, Nat.reduceMul, Nat.reduceSub, Nat.reduceBEq, Nat.reduceGT, Nat.reduceLT, Int.reduceLE, Int.reduceLT, Int.reduceNeg, reduceCtorEq] <;> rfl, by omega, RecO.nil, Upto.refl _ _⟩
  rintro ρ H' ⟨j, m, e0, e1, e2, e7, e8, hj, ho, hx⟩
  have hfl : ((P.take j).filter fun p => decide (¬ p.2.2 = tag ∧ ¬ p.2.1 = n)).length ≤ j := by
    have := List.length_filter_le (fun p : Value × Fl => decide (¬ p.2.2 = tag ∧ ¬ p.2.1 = n)) (P.take j)
    rw [List.length_take] at this
    omega
  by_cases hlt : j < L.length
  · have hp' := hp.ext hx
    obtain ⟨b, o, rfl⟩ := hp'.at (by omega : j < P.length)
    obtain ⟨⟨w1, x⟩, hxi⟩ : ∃ p, P[j]? = some p := ⟨_, List.getElem?_eq_getElem (by omega)⟩
    have hLj : L[j]? = some x := by rw [← hP, List.getElem?_map, hxi]; rfl
    obtain ⟨gs, gd, g2, g3⟩ := RecP.e0 hp' hxi
    obtain ⟨a1, l1, cc1, rfl⟩ := Sl.form g2
    have c1 : (j : Int) < L.length := by omega
    have c0 : (0 : Int) ≤ j := by omega
    have w2 : IntKind.i64.wrap ((j : Int) + 1) = ((j + 1 : Nat) : Int) := by rw [w64_id (by omega) (by omega)]; omega
    have hst := take_filter hxi (fun p : Value × Fl => decide (¬ p.2.2 = tag ∧ ¬ p.2.1 = n))
    have hmN : ∀ g, blk m = some g → ¬ N g := fun g hg hn => by have := (ho.1.blk hg).1; have := hN g hn; omega
    simp only [go_sem, ↓reduceIte, Nat.reduceEqDiff, Nat.reduceLeDiff, Nat.reduceAdd, Nat.reduceMul, Nat.reduceSub, Nat.reduceBEq, Nat.reduceGT, Nat.reduceLT, Int.reduceLE, Int.reduceLT, Int.reduceNeg, reduceCtorEq, c23_L0, e0, e1, e2, e7, e8, c0, c1, w2, Int.toNat_natCast, gd]
    refine FunI.by (F48 _ _ x.2 tag _ g2 (ht.ext hx) (hLb _ (List.mem_of_getElem? hLj)) htb) ?_
    rintro _ _ ⟨rfl, rfl⟩
    obtain ⟨d, hd⟩ : ∃ d, d = decide (x.2 = tag) := ⟨_, rfl⟩
    rw [← hd]
    cases d with
    | true =>
      have hd : x.2 = tag := of_decide_eq_true hd.symm
      rw [if_neg (by simp [hd]), List.append_nil] at hst
      simp only [go_sem, ↓reduceIte, Nat.reduceEqDiff, Nat.reduceLeDiff, Nat.reduceAdd, Nat.reduceMul, Nat.reduceSub, Nat.reduceBEq, Nat.reduceGT, Nat.reduceLT, Int.reduceLE, Int.reduceLT, Int.reduceNeg, reduceCtorEq, e0, e1, e2, e7, e8, w2]
      exact ⟨Hold.mk ⟨j + 1, m, by simp only [go_sem, ↓reduceIte, Nat.reduceEqDiff, Nat.reduceLeDiff, Nat.reduceAdd, Nat.reduceMul, Nat.reduceSub, Nat.reduceBEq, Nat.reduceGT, Nat.reduceLT, Int.reduceLE, Int.reduceLT, Int.reduceNeg, reduceCtorEq, e0], by simp only [go_sem, ↓reduceIte, Nat.reduceEqDiff, Nat.reduceLeDiff, Nat.reduceAdd, Nat.reduceMul, Nat.reduceSub, Nat.reduceBEq, Nat.reduceGT, Nat.reduceLT, Int.reduceLE, Int.reduceLT, Int.reduceNeg, reduceCtorEq, e1], by simp only [go_sem, ↓reduceIte, Nat.reduceEqDiff, Nat.reduceLeDiff, Nat.reduceAdd, Nat.reduceMul, Nat.reduceSub, Nat.reduceBEq, Nat.reduceGT, Nat.reduceLT, Int.reduceLE, Int.reduceLT, Int.reduceNeg, reduceCtorEq, e2], by simp only [go_sem, ↓reduceIte, Nat.reduceEqDiff, Nat.reduceLeDiff, Nat.reduceAdd, Nat.reduceMul, Nat.reduceSub, Nat.reduceBEq, Nat.reduceGT, Nat.reduceLT, Int.reduceLE, Int.reduceLT, Int.reduceNeg, reduceCtorEq, e7], by simp only [go_sem, ↓reduceIte, Nat.reduceEqDiff, Nat.reduceLeDiff, Nat.reduceAdd, Nat.reduceMul, Nat.reduceSub, Nat.reduceBEq, Nat.reduceGT, Nat.reduceLT, Int.reduceLE, Int.reduceLT, Int.reduceNeg, reduceCtorEq], by omega, by rw [hst]; exact ho, hx⟩, by omega⟩
    | false =>
      have hd : ¬ x.2 = tag := of_decide_eq_false hd.symm
      by_cases hxn : x.1 = n
      · rw [if_neg (by simp [hxn]), List.append_nil] at hst
        simp only [go_sem, ↓reduceIte, Nat.reduceEqDiff, Nat.reduceLeDiff, Nat.reduceAdd, Nat.reduceMul, Nat.reduceSub, Nat.reduceBEq, Nat.reduceGT, Nat.reduceLT, Int.reduceLE, Int.reduceLT, Int.reduceNeg, reduceCtorEq, e0, e1, e2, e7, e8, c0, c1, w2, Int.toNat_natCast, gs, str_dec, hxn]
        exact ⟨Hold.mk ⟨j + 1, m, by simp only [go_sem, ↓reduceIte, Nat.reduceEqDiff, Nat.reduceLeDiff, Nat.reduceAdd, Nat.reduceMul, Nat.reduceSub, Nat.reduceBEq, Nat.reduceGT, Nat.reduceLT, Int.reduceLE, Int.reduceLT, Int.reduceNeg, reduceCtorEq, e0], by simp only [go_sem, ↓reduceIte, Nat.reduceEqDiff, Nat.reduceLeDiff, Nat.reduceAdd, Nat.reduceMul, Nat.reduceSub, Nat.reduceBEq, Nat.reduceGT, Nat.reduceLT, Int.reduceLE, Int.reduceLT, Int.reduceNeg, reduceCtorEq, e1], by simp only [go_sem, ↓reduceIte, Nat.reduceEqDiff, Nat.reduceLeDiff, Nat.reduceAdd, Nat.reduceMul, Nat.reduceSub, Nat.reduceBEq, Nat.reduceGT, Nat.reduceLT, Int.reduceLE, Int.reduceLT, Int.reduceNeg, reduceCtorEq, e2], by simp only [go_sem, ↓reduceIte, Nat.reduceEqDiff, Nat.reduceLeDiff, Nat.reduceAdd, Nat.reduceMul, Nat.reduceSub, Nat.reduceBEq, Nat.reduceGT, Nat.reduceLT, Int.reduceLE, Int.reduceLT, Int.reduceNeg, reduceCtorEq, e7], by simp only [go_sem, ↓reduceIte, Nat.reduceEqDiff, Nat.reduceLeDiff, Nat.reduceAdd, Nat.reduceMul, Nat.reduceSub, Nat.reduceBEq, Nat.reduceGT, Nat.reduceLT, Int.reduceLE, Int.reduceLT, Int.reduceNeg, reduceCtorEq], by omega, by rw [hst]; exact ho, hx⟩, by omega⟩
      · rw [if_pos (by simp [hd, hxn])] at hst
        have n1 : (fileK.c (.slice a1 l1 cc1) x).all Value.oneCell' = true := rfl
        simp only [go_sem, ↓reduceIte, Nat.reduceEqDiff, Nat.reduceLeDiff, Nat.reduceAdd, Nat.reduceMul, Nat.reduceSub, Nat.reduceBEq, Nat.reduceGT, Nat.reduceLT, Int.reduceLE, Int.reduceLT, Int.reduceNeg, reduceCtorEq, e0, e1, e2, e7, e8, c0, c1, w2, Int.toNat_natCast, gs, gd, str_dec, hxn, Option.bind_some]
        refine RunI.by (RecO.add (R := fileK) (x := x) ty26 ty44 rfl hmN ho g2 g3 n1 (by omega) (by omega) hx.size) ?_
        rintro m' H2 ⟨o2, gw, _, _⟩
        simp only [go_sem, ↓reduceIte, Nat.reduceEqDiff, Nat.reduceLeDiff, Nat.reduceAdd, Nat.reduceMul, Nat.reduceSub, Nat.reduceBEq, Nat.reduceGT, Nat.reduceLT, Int.reduceLE, Int.reduceLT, Int.reduceNeg, reduceCtorEq, e8, w2]
        exact ⟨Hold.mk ⟨j + 1, m', by simp only [go_sem, ↓reduceIte, Nat.reduceEqDiff, Nat.reduceLeDiff, Nat.reduceAdd, Nat.reduceMul, Nat.reduceSub, Nat.reduceBEq, Nat.reduceGT, Nat.reduceLT, Int.reduceLE, Int.reduceLT, Int.reduceNeg, reduceCtorEq, e0], by simp only [go_sem, ↓reduceIte, Nat.reduceEqDiff, Nat.reduceLeDiff, Nat.reduceAdd, Nat.reduceMul, Nat.reduceSub, Nat.reduceBEq, Nat.reduceGT, Nat.reduceLT, Int.reduceLE, Int.reduceLT, Int.reduceNeg, reduceCtorEq, e1], by simp only [go_sem, ↓reduceIte, Nat.reduceEqDiff, Nat.reduceLeDiff, Nat.reduceAdd, Nat.reduceMul, Nat.reduceSub, Nat.reduceBEq, Nat.reduceGT, Nat.reduceLT, Int.reduceLE, Int.reduceLT, Int.reduceNeg, reduceCtorEq, e2], by simp only [go_sem, ↓reduceIte, Nat.reduceEqDiff, Nat.reduceLeDiff, Nat.reduceAdd, Nat.reduceMul, Nat.reduceSub, Nat.reduceBEq, Nat.reduceGT, Nat.reduceLT, Int.reduceLE, Int.reduceLT, Int.reduceNeg, reduceCtorEq], by simp only [go_sem, ↓reduceIte, Nat.reduceEqDiff, Nat.reduceLeDiff, Nat.reduceAdd, Nat.reduceMul, Nat.reduceSub, Nat.reduceBEq, Nat.reduceGT, Nat.reduceLT, Int.reduceLE, Int.reduceLT, Int.reduceNeg, reduceCtorEq], by omega, by rw [hst]; exact o2, hx.trans (gw.upto ho.1 hx.size)⟩, by omega⟩
  · have c1 : ¬ (j : Int) < L.length := by omega
    have : j = L.length := by omega
    subst this
    rw [List.take_of_length_le (by omega)] at ho hfl
    have hfm : ((P.filter fun p => decide (¬ p.2.2 = tag ∧ ¬ p.2.1 = n)).map (·.2)) = L.filter fun x => decide (¬ x.2 = tag ∧ ¬ x.1 = n) := by
      rw [← hP, List.filter_map]; rfl
    have hmN : ∀ g, blk m = some g → ¬ N g := fun g hg hn => by have := (ho.1.blk hg).1; have := hN g hn; omega
    by_cases hn : n = emptyNm
    · have hne : n = ⟨#[]⟩ := hn
      simp only [go_sem, ↓reduceIte, Nat.reduceEqDiff, Nat.reduceLeDiff, Nat.reduceAdd, Nat.reduceMul, Nat.reduceSub, Nat.reduceBEq, Nat.reduceGT, Nat.reduceLT, Int.reduceLE, Int.reduceLT, Int.reduceNeg, reduceCtorEq, c23_L0, e0, e1, e2, e7, e8, c1, str_dec, hne]
      refine ⟨RecO.fin ho (Nat.le_refl _) ?_, hx⟩
      unfold namedS
      rw [hfm, ← hne, if_pos hn, List.append_nil]
    · have hne : ¬ n = ⟨#[]⟩ := hn
      have n1 : (fileK.c (.slice ta tag.length tc) (n, tag)).all Value.oneCell' = true := rfl
      simp only [go_sem, ↓reduceIte, Nat.reduceEqDiff, Nat.reduceLeDiff, Nat.reduceAdd, Nat.reduceMul, Nat.reduceSub, Nat.reduceBEq, Nat.reduceGT, Nat.reduceLT, Int.reduceLE, Int.reduceLT, Int.reduceNeg, reduceCtorEq, c23_L0, e0, e1, e2, e7, e8, c1, str_dec, hne]
      refine RunI.by (RecO.add (R := fileK) (x := (n, tag)) ty26 ty44 rfl hmN ho (ht.ext hx) htN n1 (by omega) (by omega) hx.size) ?_
      rintro m' H2 ⟨o2, gw, _, _⟩
      simp only [go_sem, ↓reduceIte, Nat.reduceEqDiff, Nat.reduceLeDiff, Nat.reduceAdd, Nat.reduceMul, Nat.reduceSub, Nat.reduceBEq, Nat.reduceGT, Nat.reduceLT, Int.reduceLE, Int.reduceLT, Int.reduceNeg, reduceCtorEq]
      refine ⟨RecO.fin o2 (Nat.le_refl _) ?_, hx.trans (gw.upto ho.1 hx.size)⟩
      unfold namedS
      rw [List.map_append, hfm, if_neg hn]
      rfl
/-- Out of the file system's blocks, and not this one. -/
def NT (F : Nat → Prop) (H : Heap) (tv : Value) (g : Nat) : Prop := Out F H g ∧ blk tv ≠ some g
theorem RecN.chT {α : Type} {R : RecK α} {H H' : Heap} {F F' : Nat → Prop} {tv : Value} {e eb : Nat} {v : Value} {L : List α} (h : RecN R H (NT F H tv) e eb v L) (c : Ch F F' H H') : RecN R H' (NT F' H' tv) e eb v L :=
  RecN.keep h c.size (fun g hg hl => c.get g hl hg.1.2) fun g hg => ⟨Out.ch c g hg.1, hg.2⟩
theorem RecN.extT {α : Type} {R : RecK α} {H H' : Heap} {F : Nat → Prop} {tv : Value} {e eb : Nat} {v : Value} {L : List α} (h : RecN R H (NT F H tv) e eb v L) (x : Ext H H') : RecN R H' (NT F H' tv) e eb v L :=
  (RecN.ext h x).more fun g hg => ⟨Out.ext x g hg.1, hg.2⟩
/-- The list of what is to be done: its own, and out of the file system. -/
structure Todo (B0 : Nat) (H : Heap) (F : Nat → Prop) (tv : Value) (P : List (Value × Fl)) : Prop where
  own : RecO fileK H B0 (NT F H tv) 44 5 tv P
  out : ∀ g, blk tv = some g → Out F H g
theorem Todo.ch {B0 : Nat} {H H' : Heap} {F F' : Nat → Prop} {tv : Value} {P : List (Value × Fl)} (h : Todo B0 H F tv P) (c : Ch F F' H H') : Todo B0 H' F' tv P :=
  ⟨⟨h.own.1.keep fun g hg => c.get g (h.out g hg).1 (h.out g hg).2, RecE.keep h.own.2 c.size (fun g hg hl => c.get g hl hg.1.2) fun g hg => ⟨Out.ch c g hg.1, hg.2⟩⟩, fun g hg => Out.ch c g (h.out g hg)⟩
theorem Todo.ext {B0 : Nat} {H H' : Heap} {F : Nat → Prop} {tv : Value} {P : List (Value × Fl)} (h : Todo B0 H F tv P) (x : Ext H H') : Todo B0 H' F tv P :=
  h.ch (x.ch)
/-- One more to be done. -/
theorem Todo.add {B0 : Nat} {H : Heap} {F : Nat → Prop} {tv : Value} {P : List (Value × Fl)} (h : Todo B0 H F tv P) (hB : B0 ≤ H.size) (hF : ∀ g, F g → g < H.size) {u : Value} {x : Fl} (hu : Ints H 5 .u8 u x.2) (huN : ∀ g, blk u = some g → NT F H tv g) (hl : P.length ≤ 1000000) :
    RunS Try.prog (sAppend #[26, 26] #[tv, .slice (some ⟨H.size, 0, none⟩) 1 1]) (H.push (.cells #[.string x.1, u] 44)) (fun tv' H' => Todo B0 H' F tv' (P ++ [(u, x)]) ∧ (∀ {w : Value} {M : List Fl}, FilesN H (NT F H tv) w M → FilesN H' (NT F H' tv') w M) ∧ (∀ {w : Value} {xs : List Int}, Ints H 5 .u8 w xs → (∀ g, blk w = some g → NT F H tv g) → Ints H' 5 .u8 w xs ∧ ∀ g, blk w = some g → NT F H' tv' g) ∧ Ch (fun g => blk tv = some g) (fun g => blk tv' = some g) H H' ∧ Upto B0 H H') := by
  obtain ⟨ua, uc, rfl⟩ := hu.form
  have n1 : (fileK.c (.slice ua x.2.length uc) x).all Value.oneCell' = true := rfl
  refine (RecO.add (R := fileK) (x := x) ty26 ty44 rfl (fun g hg hn => hn.2 hg) h.own hu huN n1 (by omega) (by omega) hB).mono ?_
  rintro tv' H' ⟨o, gw, hne, hap⟩
  have nn : ∀ g, NT F H tv g → NT F H' tv' g := fun g hg => ⟨⟨Nat.lt_of_lt_of_le hg.1.1 gw.but.size, hg.1.2⟩, fun e => by have := hap g e hg; have := hg.1.1; omega⟩
  have kk : ∀ g, NT F H tv g → g < H.size → H'[g]? = H[g]? := fun g hg hl => gw.but.get g hl fun e => hg.2 e.symm
  refine ⟨⟨o.more nn, fun g hg => ⟨(o.1.blk hg).2.1, fun e => ?_⟩⟩, fun {w M} hw => hw.keep gw.but.size kk nn, fun {w xs} hw hN => ⟨Sl.keepN hw gw.but.size fun b hb hl => kk b (hN b hb) hl, fun g hg => nn g (hN g hg)⟩, ⟨gw.but.size, fun g hg => ?_, fun g hl hne => gw.but.get g hl fun e => hne e.symm⟩, gw.upto h.own.1 hB⟩
  rotate_left
  · rcases gw.at' with e2 | ⟨q, e2, hq⟩
    · rw [e2] at hg; exact .inl hg
    · rw [e2] at hg; cases hg; exact .inr hq
  rcases gw.at' with e2 | ⟨q, e2, hq⟩
  · rw [e2] at hg
    exact (h.out g hg).2 e
  · rw [e2] at hg
    cases hg
    have := hF _ e
    omega
/-- The law's step: writing and syncing stand for making. -/
def oneT (t : Stp) : Stp := if t.kind = 2 ∨ t.kind = 3 then { t with kind := 1 } else t
theorem todo_eq {s : St} {T : List Fl} (h : T = s.pend.map fun p => (p.2, s.dat p.1)) {dat : Nat → List Int} (hd : ∀ p ∈ s.pend, dat p.1 = s.dat p.1) : T = s.pend.map fun p => (p.2, dat p.1) := by
  rw [h]
  refine List.map_congr_left fun p hp => ?_
  rw [hd p hp]
set_option maxHeartbeats 12800000 in
theorem F4 (v : Value) (os : List Stp) (dir : Int) (H : Heap) (hv : Steps H v os) (hf : ∀ t ∈ os, 0 ≤ t.fill ∧ t.fill < 256) (hdir : IntR .i64 dir) :
    Fun Try.prog 4 #[v, .int .i64 dir] H (fun r H' => r = .bool true ∧ Ext H H') := by
  obtain ⟨a, c, rfl⟩ := steps_form hv
  refine fun_of mixed (args := [_, _]) Try.func4 Try.ntmps4 b4 r4 rfl ?_
  simp only [go_sem, ↓reduceIte, Nat.reduceEqDiff, Nat.reduceLeDiff, Nat.reduceAdd, Nat.reduceMul, Nat.reduceSub, Nat.reduceBEq, Nat.reduceGT, Nat.reduceLT, Int.reduceLE, Int.reduceLT, Int.reduceNeg, reduceCtorEq]
  refine FunI.by (F11 H) ?_
  rintro _ H1 ⟨rfl, x1⟩
  simp only [go_sem, ↓reduceIte, Nat.reduceEqDiff, Nat.reduceLeDiff, Nat.reduceAdd, Nat.reduceMul, Nat.reduceSub, Nat.reduceBEq, Nat.reduceGT, Nat.reduceLT, Int.reduceLE, Int.reduceLT, Int.reduceNeg, reduceCtorEq]
  refine FunI.by (F12 2147483647 H1 trivial) ?_
  rintro f H2 ⟨x2, h⟩
  have x12 := x1.trans (x2.mono x1.size)
  rw [if_neg (by omega)] at h
  obtain ⟨b, F, rfl, h2, n2⟩ := h
  have N2 : Newly H H2 F := ⟨x12, fun g hg => Nat.le_trans x1.size (n2 g hg)⟩
  simp only [go_sem, ↓reduceIte, Nat.reduceEqDiff, Nat.reduceLeDiff, Nat.reduceAdd, Nat.reduceMul, Nat.reduceSub, Nat.reduceBEq, Nat.reduceGT, Nat.reduceLT, Int.reduceLE, Int.reduceLT, Int.reduceNeg, reduceCtorEq, ptrOf]
  refine LoopI.by mixed (fun ρ H' => ∃ (i : Nat) (s : St) (F : Nat → Prop) (L W : List Fl) (PT : List (Value × Fl)) (fv wv tv : Value), ρ 0 = .slice a os.length c ∧ ρ 1 = .int .i64 dir ∧ ρ 6 = ptrOf b ∧ ρ 7 = fv ∧ ρ 8 = wv ∧ ρ 9 = tv ∧ ρ 10 = .int .i64 i ∧ i ≤ os.length ∧ i ≤ 200 ∧
    FsH H' F b s ∧ Ok s ∧ s.off = false ∧ s.fuse = 0 ∧ s.room = 2147483647 ∧ s.ops ≤ 3 * i ∧ Tagged i s ∧ FilesN H' (NT F H' tv) fv L ∧ FilesN H' (NT F H' tv) wv W ∧ Todo H.size H' F tv PT ∧ PT.map (·.2) = s.pend.map (fun p => (p.2, s.dat p.1)) ∧
    Tells s.now s.dat L ∧ Tells s.last s.dat W ∧ L.length ≤ i ∧ W.length ≤ i ∧ PT.length ≤ i ∧ (∀ x ∈ L, Byt x.2 ∧ x.2.length ≤ 3) ∧ (∀ x ∈ W, Byt x.2 ∧ x.2.length ≤ 3) ∧ (∀ p ∈ PT, Byt p.2.2 ∧ p.2.2.length ≤ 3) ∧ Newly H H' F) (fun ρ _ => os.length - (iof (ρ 10)).toNat) ?_ ?_
  · refine ⟨0, freshS 2147483647, F, [], [], [], _, _, _, by simp only [go_sem, ↓reduceIte, Nat.reduceEqDiff, Nat.reduceLeDiff, Nat.reduceAdd, Nat.reduceMul, Nat.reduceSub, Nat.reduceBEq, Nat.reduceGT, Nat.reduceLT, Int.reduceLE, Int.reduceLT, Int.reduceNeg, reduceCtorEq], by simp only [go_sem, ↓reduceIte, Nat.reduceEqDiff, Nat.reduceLeDiff, Nat.reduceAdd, Nat.reduceMul, Nat.reduceSub, Nat.reduceBEq, Nat.reduceGT, Nat.reduceLT, Int.reduceLE, Int.reduceLT, Int.reduceNeg, reduceCtorEq], by simp only [go_sem, ↓reduceIte, Nat.reduceEqDiff, Nat.reduceLeDiff, Nat.reduceAdd, Nat.reduceMul, Nat.reduceSub, Nat.reduceBEq, Nat.reduceGT, Nat.reduceLT, Int.reduceLE, Int.reduceLT, Int.reduceNeg, reduceCtorEq, ptrOf], by simp only [go_sem, ↓reduceIte, Nat.reduceEqDiff, Nat.reduceLeDiff, Nat.reduceAdd, Nat.reduceMul, Nat.reduceSub, Nat.reduceBEq, Nat.reduceGT, Nat.reduceLT, Int.reduceLE, Int.reduceLT, Int.reduceNeg, reduceCtorEq] <;> rfl, by simp only [go_sem, ↓reduceIte, Nat.reduceEqDiff, Nat.reduceLeDiff, Nat.reduceAdd, Nat.reduceMul, Nat.reduceSub, Nat.reduceBEq, Nat.reduceGT, Nat.reduceLT, Int.reduceLE, Int.reduceLT, Int.reduceNeg, reduceCtorEq] <;> rfl, by simp only [go_sem, ↓reduceIte, Nat.reduceEqDiff, Nat.reduceLeDiff, Nat.reduceAdd, Nat.reduceMul, Nat.reduceSub, Nat.reduceBEq, Nat.reduceGT, Nat.reduceLT, Int.reduceLE, Int.reduceLT, Int.reduceNeg, reduceCtorEq] <;> rfl, by simp only [go_sem, ↓reduceIte, Nat.reduceEqDiff, Nat.reduceLeDiff, Nat.reduceAdd, Nat.reduceMul, Nat.reduceSub, Nat.reduceBEq, Nat.reduceGT, Nat.reduceLT, Int.reduceLE, Int.reduceLT, Int.reduceNeg, reduceCtorEq] <;> rfl, by omega, by omega,
      h2, fresh_ok (by omega), rfl, rfl, rfl, Int.le_refl _, ⟨fun x hx => by simp [freshS] at hx, fun x hx => by simp [freshS] at hx, fun x hx => by simp [freshS] at hx⟩, RecN.nil, RecN.nil, ⟨RecO.nil, fun g hg => by simp [blk] at hg⟩, rfl, ⟨List.nodup_nil, fun n => rfl⟩, ⟨List.nodup_nil, fun n => rfl⟩, Nat.le_refl _, Nat.le_refl _, Nat.le_refl _, by simp, by simp, by simp, N2⟩
  clear h2 N2 n2 x12 x1 x2
  rintro ρ H' ⟨i, s, F, L, W, PT, fv, wv, tv, e0, e1, e6, e7, e8, e9, e10, hi, hi3, hfs, ok, hoff, hfu, hroom, hops, tgd, hfl, hwl, htd, hT, tellL, tellW, hL, hW, hPT, hLb, hWb, hTb, nw⟩
  by_cases hlt : i < os.length ∧ i < 200
  case pos =>
    obtain ⟨hl1, hl2⟩ := hlt
    obtain ⟨t, hti⟩ : ∃ t, os[i]? = some t := ⟨_, List.getElem?_eq_getElem hl1⟩
    have htf := hf t (List.mem_of_getElem? hti)
    have hst : ∀ {G : Heap}, Ext H G → Steps G (.slice a os.length c) os := fun x => Sl.ext hv x
    obtain ⟨g, o, rfl, k0, k1, k2, k3, k4⟩ := steps_at (hst nw.1) hti
    have c0 : (0 : Int) ≤ i := by omega
    have c1 : (i : Int) < os.length := by omega
    have c2 : (i : Int) < 200 := by omega
    have w2 : IntKind.i64.wrap ((i : Int) + 1) = ((i + 1 : Nat) : Int) := by rw [w64_id (by omega) (by omega)]; omega
    have hput5 : hput (H'.push (.cells #[.int .i64 0, .int .i64 0, .int .i64 0, .int .i64 0, .int .u8 0] 30)) H'.size 0 [.int .i64 t.kind, .int .i64 t.i, .int .i64 t.k, .int .i64 t.many, .int .u8 t.fill] = H'.push (.cells #[.int .i64 t.kind, .int .i64 t.i, .int .i64 t.k, .int .i64 t.many, .int .u8 t.fill] 30) := hput_push rfl
    have hcan5 : hcan (H'.push (.cells #[.int .i64 0, .int .i64 0, .int .i64 0, .int .i64 0, .int .u8 0] 30)) H'.size 0 5 := hcan_of push_new (by simp)
    have hcan1 : ∀ x0 : Value, hcan (H'.push (.cells #[x0, .int .i64 t.i, .int .i64 t.k, .int .i64 t.many, .int .u8 t.fill] 30)) H'.size 0 1 := fun x0 => hcan_of push_new (by simp)
    have hput1 : ∀ x0 x : Value, hput (H'.push (.cells #[x0, .int .i64 t.i, .int .i64 t.k, .int .i64 t.many, .int .u8 t.fill] 30)) H'.size 0 [x] = H'.push (.cells #[x, .int .i64 t.i, .int .i64 t.k, .int .i64 t.many, .int .u8 t.fill] 30) := fun x0 x => hput_push0
    have gk : ∀ x0 : Value, hget (H'.push (.cells #[x0, .int .i64 t.i, .int .i64 t.k, .int .i64 t.many, .int .u8 t.fill] 30)) H'.size 0 = some x0 ∧ hget (H'.push (.cells #[x0, .int .i64 t.i, .int .i64 t.k, .int .i64 t.many, .int .u8 t.fill] 30)) H'.size 1 = some (.int .i64 t.i) := fun x0 => by
      constructor <;> (unfold hget; rw [push_new]; rfl)
    have hz : H'.size + 0 = H'.size := rfl
    rcases Classical.em (t.kind = 2) with h2 | h2
    case' inl =>
      have one : oneT t = { t with kind := 1 } := by unfold oneT; rw [if_pos (.inl h2)]
      have st5 : StepH (H'.push (.cells #[.int .i64 1, .int .i64 t.i, .int .i64 t.k, .int .i64 t.many, .int .u8 t.fill] 30)) H'.size (oneT t) := by rw [one]; exact StepH.box { t with kind := 1 }
      have xG : Ext H' (H'.push (.cells #[.int .i64 1, .int .i64 t.i, .int .i64 t.k, .int .i64 t.many, .int .u8 t.fill] 30)) := Ext.push _
      rw [h2] at k0 hput5
      simp only [go_sem, ↓reduceIte, Nat.reduceEqDiff, Nat.reduceLeDiff, Nat.reduceAdd, Nat.reduceMul, Nat.reduceSub, Nat.reduceBEq, Nat.reduceGT, Nat.reduceLT, Int.reduceLE, Int.reduceLT, Int.reduceNeg, reduceCtorEq, c4_L0, e0, e1, e6, e7, e8, e9, e10, c0, c1, c2, Int.toNat_natCast, hgets5, k0, k1, k2, k3, k4, Option.bind_some, w2, hput5, hcan5, (gk (.int .i64 2)).1, hcan1, hput1, (gk (.int .i64 1)).2, Int.reduceEq]
      refine ⟨rfl, rfl, ?_⟩
      clear hput5 hcan5 hcan1 hput1 gk
      generalize H'.push (.cells #[.int .i64 1, .int .i64 t.i, .int .i64 t.k, .int .i64 t.many, .int .u8 t.fill] 30) = G at *
    case' inr =>
      rcases Classical.em (t.kind = 3) with h3 | h3
      case' inl =>
        have one : oneT t = { t with kind := 1 } := by unfold oneT; rw [if_pos (.inr h3)]
        have st5 : StepH (H'.push (.cells #[.int .i64 1, .int .i64 t.i, .int .i64 t.k, .int .i64 t.many, .int .u8 t.fill] 30)) H'.size (oneT t) := by rw [one]; exact StepH.box { t with kind := 1 }
        have xG : Ext H' (H'.push (.cells #[.int .i64 1, .int .i64 t.i, .int .i64 t.k, .int .i64 t.many, .int .u8 t.fill] 30)) := Ext.push _
        rw [h3] at k0 hput5
        simp only [go_sem, ↓reduceIte, Nat.reduceEqDiff, Nat.reduceLeDiff, Nat.reduceAdd, Nat.reduceMul, Nat.reduceSub, Nat.reduceBEq, Nat.reduceGT, Nat.reduceLT, Int.reduceLE, Int.reduceLT, Int.reduceNeg, reduceCtorEq, c4_L0, e0, e1, e6, e7, e8, e9, e10, c0, c1, c2, Int.toNat_natCast, hgets5, k0, k1, k2, k3, k4, Option.bind_some, w2, hput5, hcan5, (gk (.int .i64 3)).1, hcan1, hput1, (gk (.int .i64 1)).2, Int.reduceEq]
        refine ⟨rfl, rfl, ?_⟩
        clear hput5 hcan5 hcan1 hput1 gk
        generalize H'.push (.cells #[.int .i64 1, .int .i64 t.i, .int .i64 t.k, .int .i64 t.many, .int .u8 t.fill] 30) = G at *
      case' inr =>
        have one : oneT t = t := by unfold oneT; rw [if_neg (by omega)]
        have st5 : StepH (H'.push (.cells #[.int .i64 t.kind, .int .i64 t.i, .int .i64 t.k, .int .i64 t.many, .int .u8 t.fill] 30)) H'.size (oneT t) := by rw [one]; exact StepH.box _
        have xG : Ext H' (H'.push (.cells #[.int .i64 t.kind, .int .i64 t.i, .int .i64 t.k, .int .i64 t.many, .int .u8 t.fill] 30)) := Ext.push _
        simp only [go_sem, ↓reduceIte, Nat.reduceEqDiff, Nat.reduceLeDiff, Nat.reduceAdd, Nat.reduceMul, Nat.reduceSub, Nat.reduceBEq, Nat.reduceGT, Nat.reduceLT, Int.reduceLE, Int.reduceLT, Int.reduceNeg, reduceCtorEq, c4_L0, e0, e1, e6, e7, e8, e9, e10, c0, c1, c2, Int.toNat_natCast, hgets5, k0, k1, k2, k3, k4, Option.bind_some, w2, hput5, hcan5, (gk (.int .i64 t.kind)).1, (gk (.int .i64 t.kind)).2, h2, h3]
        refine ⟨rfl, ?_⟩
        clear hput5 hcan5 hcan1 hput1 gk
        generalize H'.push (.cells #[.int .i64 t.kind, .int .i64 t.i, .int .i64 t.k, .int .i64 t.many, .int .u8 t.fill] 30) = G at *
    all_goals
      have ui : t.i = (oneT t).i := by unfold oneT; split <;> rfl
      have uf : 0 ≤ (oneT t).fill ∧ (oneT t).fill < 256 := by unfold oneT; split <;> exact htf
      have u23 : (oneT t).kind ≠ 2 ∧ (oneT t).kind ≠ 3 := by
        unfold oneT; split
        · exact ⟨show (1 : Int) ≠ 2 by decide, show (1 : Int) ≠ 3 by decide⟩
        · rename_i hh; exact ⟨fun e => hh (.inl e), fun e => hh (.inr e)⟩
      rw [ui]
      clear k0 k1 k2 k3 k4 one ui
      generalize oneT t = u at *
      have nwG := nw.ext xG
      have hfG := hfs.ext xG
      have flG := RecN.extT hfl xG
      have wlG := RecN.extT hwl xG
      have tdG := htd.ext xG
      have bkF : ¬ F H'.size := fun e => by obtain ⟨_, _, _, _, _, q⟩ := hfs; have := q.lt _ e; omega
      have bkT : blk tv ≠ some H'.size := fun e => by have := (htd.out _ e).1; omega
      clear xG
      refine FunI.by (F16 u.i _) ?_
      rintro _ H5 ⟨rfl, x5⟩
      have nw5 := nwG.ext x5
      have hf5 := hfG.ext x5
      have fl5 := RecN.extT flG x5
      have wl5 := RecN.extT wlG x5
      have td5 := tdG.ext x5
      have st6 := st5.ext x5
      clear nwG hfG flG wlG tdG st5 x5
      simp only [go_sem, ↓reduceIte, Nat.reduceEqDiff, Nat.reduceLeDiff, Nat.reduceAdd, Nat.reduceMul, Nat.reduceSub, Nat.reduceBEq, Nat.reduceGT, Nat.reduceLT, Int.reduceLE, Int.reduceLT, Int.reduceNeg, reduceCtorEq, e7]
      refine FunI.by (F15 fl5 (by omega) (nameS u.i)) ?_
      rintro _ _ ⟨rfl, rfl⟩
      simp only [go_sem, ↓reduceIte, Nat.reduceEqDiff, Nat.reduceLeDiff, Nat.reduceAdd, Nat.reduceMul, Nat.reduceSub, Nat.reduceBEq, Nat.reduceGT, Nat.reduceLT, Int.reduceLE, Int.reduceLT, Int.reduceNeg, reduceCtorEq, e0, e1, e6, e7, e8, e9, e10, hgets5, Nat.zero_add, st6.g0, st6.g1, st6.g2, st6.g3, st6.g4, Option.bind_some]
      refine FunI.by (F14 hf5 ok (by omega) u uf) ?_
      rintro _ H6 ⟨x, hx, rfl, F6, h6, c6⟩
      have nw6 := nw5.ch c6
      have fl6 := RecN.chT fl5 c6
      have wl6 := RecN.chT wl5 c6
      have td6 := td5.ch c6
      have ok6 := does_ok ok u hx
      have on := does_on hfu hoff u x
      have op := does_ops s u x
      have g6 : H6[H'.size]? = H5[H'.size]? := c6.get _ st6.lt bkF
      have st7 : StepH H6 H'.size u := by
        have gg : ∀ j, hget H6 H'.size j = hget H5 H'.size j := fun j => by unfold hget; rw [g6]
        exact ⟨Nat.lt_of_lt_of_le st6.lt c6.size, by rw [gg]; exact st6.g0, by rw [gg]; exact st6.g1, by rw [gg]; exact st6.g2, by rw [gg]; exact st6.g3, by rw [gg]; exact st6.g4⟩
      have bk6 : Out F6 H6 H'.size := Out.ch c6 _ ⟨st6.lt, bkF⟩
      have upL : ∀ {M : List Fl}, M.length ≤ i → M.length ≤ i + 1 := fun h => by omega
      have viewN : viewS s (nameS u.i) = lkp L (nameS u.i) := (tellL.2 _).symm
      rcases does_view ok hoff u hx with ⟨he, hvw⟩ | ⟨hs, he0, he81, _⟩
      case' inr =>
        rw [hs] at h6
        simp only [go_sem, ↓reduceIte, Nat.reduceEqDiff, Nat.reduceLeDiff, Nat.reduceAdd, Nat.reduceMul, Nat.reduceSub, Nat.reduceBEq, Nat.reduceGT, Nat.reduceLT, Int.reduceLE, Int.reduceLT, Int.reduceNeg, reduceCtorEq, e0, e1, e6, e7, e8, e9, e10, he0, w2]
        exact ⟨Hold.mk ⟨i + 1, s, F6, L, W, PT, fv, wv, tv, by simp only [go_sem, ↓reduceIte, Nat.reduceEqDiff, Nat.reduceLeDiff, Nat.reduceAdd, Nat.reduceMul, Nat.reduceSub, Nat.reduceBEq, Nat.reduceGT, Nat.reduceLT, Int.reduceLE, Int.reduceLT, Int.reduceNeg, reduceCtorEq, e0], by simp only [go_sem, ↓reduceIte, Nat.reduceEqDiff, Nat.reduceLeDiff, Nat.reduceAdd, Nat.reduceMul, Nat.reduceSub, Nat.reduceBEq, Nat.reduceGT, Nat.reduceLT, Int.reduceLE, Int.reduceLT, Int.reduceNeg, reduceCtorEq, e1], by simp only [go_sem, ↓reduceIte, Nat.reduceEqDiff, Nat.reduceLeDiff, Nat.reduceAdd, Nat.reduceMul, Nat.reduceSub, Nat.reduceBEq, Nat.reduceGT, Nat.reduceLT, Int.reduceLE, Int.reduceLT, Int.reduceNeg, reduceCtorEq, e6], by simp only [go_sem, ↓reduceIte, Nat.reduceEqDiff, Nat.reduceLeDiff, Nat.reduceAdd, Nat.reduceMul, Nat.reduceSub, Nat.reduceBEq, Nat.reduceGT, Nat.reduceLT, Int.reduceLE, Int.reduceLT, Int.reduceNeg, reduceCtorEq, e7], by simp only [go_sem, ↓reduceIte, Nat.reduceEqDiff, Nat.reduceLeDiff, Nat.reduceAdd, Nat.reduceMul, Nat.reduceSub, Nat.reduceBEq, Nat.reduceGT, Nat.reduceLT, Int.reduceLE, Int.reduceLT, Int.reduceNeg, reduceCtorEq, e8], by simp only [go_sem, ↓reduceIte, Nat.reduceEqDiff, Nat.reduceLeDiff, Nat.reduceAdd, Nat.reduceMul, Nat.reduceSub, Nat.reduceBEq, Nat.reduceGT, Nat.reduceLT, Int.reduceLE, Int.reduceLT, Int.reduceNeg, reduceCtorEq, e9], by simp only [go_sem, ↓reduceIte, Nat.reduceEqDiff, Nat.reduceLeDiff, Nat.reduceAdd, Nat.reduceMul, Nat.reduceSub, Nat.reduceBEq, Nat.reduceGT, Nat.reduceLT, Int.reduceLE, Int.reduceLT, Int.reduceNeg, reduceCtorEq], by omega, by omega, h6, ok, hoff, hfu, hroom, by omega, tgd.sub (fun _ h => h) rfl rfl, fl6, wl6, td6, hT, tellL, tellW, by omega, by omega, by omega, hLb, hWb, hTb, nw6⟩, by omega⟩
      have he : (doesS s u x).2 = 0 := by rcases he with he | he; exact he; exact absurd he on.2.2
      rcases Classical.em (1 ≤ u.kind ∧ u.kind ≤ 6) with hk6 | hk6
      case' inr =>
        have hds : doesS s u x = (s, 0) := by
          unfold doesS
          rw [if_neg (by omega), if_neg (by omega), if_neg (by omega), if_neg (by omega), if_neg (by omega), if_neg (by omega)]
        rw [hds] at h6
        have fin : (∃ (i : Nat) (s : St) (F : Nat → Prop) (L W : List Fl) (PT : List (Value × Fl)) (fv wv tv : Value), True) := ⟨0, s, F, L, W, PT, fv, wv, tv, trivial⟩
        rcases Classical.em (u.kind < 1) with hz | hz
        · simp only [go_sem, ↓reduceIte, Nat.reduceEqDiff, Nat.reduceLeDiff, Nat.reduceAdd, Nat.reduceMul, Nat.reduceSub, Nat.reduceBEq, Nat.reduceGT, Nat.reduceLT, Int.reduceLE, Int.reduceLT, Int.reduceNeg, reduceCtorEq, e0, e1, e6, e7, e8, e9, e10, he, st7.g0, hz, w2, Int.reduceEq]
          exact ⟨Hold.mk ⟨i + 1, s, F6, L, W, PT, fv, wv, tv, by simp only [go_sem, ↓reduceIte, Nat.reduceEqDiff, Nat.reduceLeDiff, Nat.reduceAdd, Nat.reduceMul, Nat.reduceSub, Nat.reduceBEq, Nat.reduceGT, Nat.reduceLT, Int.reduceLE, Int.reduceLT, Int.reduceNeg, reduceCtorEq, e0], by simp only [go_sem, ↓reduceIte, Nat.reduceEqDiff, Nat.reduceLeDiff, Nat.reduceAdd, Nat.reduceMul, Nat.reduceSub, Nat.reduceBEq, Nat.reduceGT, Nat.reduceLT, Int.reduceLE, Int.reduceLT, Int.reduceNeg, reduceCtorEq, e1], by simp only [go_sem, ↓reduceIte, Nat.reduceEqDiff, Nat.reduceLeDiff, Nat.reduceAdd, Nat.reduceMul, Nat.reduceSub, Nat.reduceBEq, Nat.reduceGT, Nat.reduceLT, Int.reduceLE, Int.reduceLT, Int.reduceNeg, reduceCtorEq, e6], by simp only [go_sem, ↓reduceIte, Nat.reduceEqDiff, Nat.reduceLeDiff, Nat.reduceAdd, Nat.reduceMul, Nat.reduceSub, Nat.reduceBEq, Nat.reduceGT, Nat.reduceLT, Int.reduceLE, Int.reduceLT, Int.reduceNeg, reduceCtorEq, e7], by simp only [go_sem, ↓reduceIte, Nat.reduceEqDiff, Nat.reduceLeDiff, Nat.reduceAdd, Nat.reduceMul, Nat.reduceSub, Nat.reduceBEq, Nat.reduceGT, Nat.reduceLT, Int.reduceLE, Int.reduceLT, Int.reduceNeg, reduceCtorEq, e8], by simp only [go_sem, ↓reduceIte, Nat.reduceEqDiff, Nat.reduceLeDiff, Nat.reduceAdd, Nat.reduceMul, Nat.reduceSub, Nat.reduceBEq, Nat.reduceGT, Nat.reduceLT, Int.reduceLE, Int.reduceLT, Int.reduceNeg, reduceCtorEq, e9], by simp only [go_sem, ↓reduceIte, Nat.reduceEqDiff, Nat.reduceLeDiff, Nat.reduceAdd, Nat.reduceMul, Nat.reduceSub, Nat.reduceBEq, Nat.reduceGT, Nat.reduceLT, Int.reduceLE, Int.reduceLT, Int.reduceNeg, reduceCtorEq], by omega, by omega, h6, ok, hoff, hfu, hroom, by omega, tgd.sub (fun _ h => h) rfl rfl, fl6, wl6, td6, hT, tellL, tellW, by omega, by omega, by omega, hLb, hWb, hTb, nw6⟩, by omega⟩
        · have hz2 : (6 : Int) < u.kind := by omega
          simp only [go_sem, ↓reduceIte, Nat.reduceEqDiff, Nat.reduceLeDiff, Nat.reduceAdd, Nat.reduceMul, Nat.reduceSub, Nat.reduceBEq, Nat.reduceGT, Nat.reduceLT, Int.reduceLE, Int.reduceLT, Int.reduceNeg, reduceCtorEq, e0, e1, e6, e7, e8, e9, e10, he, st7.g0, hz, hz2, w2, Int.reduceEq]
          exact ⟨Hold.mk ⟨i + 1, s, F6, L, W, PT, fv, wv, tv, by simp only [go_sem, ↓reduceIte, Nat.reduceEqDiff, Nat.reduceLeDiff, Nat.reduceAdd, Nat.reduceMul, Nat.reduceSub, Nat.reduceBEq, Nat.reduceGT, Nat.reduceLT, Int.reduceLE, Int.reduceLT, Int.reduceNeg, reduceCtorEq, e0], by simp only [go_sem, ↓reduceIte, Nat.reduceEqDiff, Nat.reduceLeDiff, Nat.reduceAdd, Nat.reduceMul, Nat.reduceSub, Nat.reduceBEq, Nat.reduceGT, Nat.reduceLT, Int.reduceLE, Int.reduceLT, Int.reduceNeg, reduceCtorEq, e1], by simp only [go_sem, ↓reduceIte, Nat.reduceEqDiff, Nat.reduceLeDiff, Nat.reduceAdd, Nat.reduceMul, Nat.reduceSub, Nat.reduceBEq, Nat.reduceGT, Nat.reduceLT, Int.reduceLE, Int.reduceLT, Int.reduceNeg, reduceCtorEq, e6], by simp only [go_sem, ↓reduceIte, Nat.reduceEqDiff, Nat.reduceLeDiff, Nat.reduceAdd, Nat.reduceMul, Nat.reduceSub, Nat.reduceBEq, Nat.reduceGT, Nat.reduceLT, Int.reduceLE, Int.reduceLT, Int.reduceNeg, reduceCtorEq, e7], by simp only [go_sem, ↓reduceIte, Nat.reduceEqDiff, Nat.reduceLeDiff, Nat.reduceAdd, Nat.reduceMul, Nat.reduceSub, Nat.reduceBEq, Nat.reduceGT, Nat.reduceLT, Int.reduceLE, Int.reduceLT, Int.reduceNeg, reduceCtorEq, e8], by simp only [go_sem, ↓reduceIte, Nat.reduceEqDiff, Nat.reduceLeDiff, Nat.reduceAdd, Nat.reduceMul, Nat.reduceSub, Nat.reduceBEq, Nat.reduceGT, Nat.reduceLT, Int.reduceLE, Int.reduceLT, Int.reduceNeg, reduceCtorEq, e9], by simp only [go_sem, ↓reduceIte, Nat.reduceEqDiff, Nat.reduceLeDiff, Nat.reduceAdd, Nat.reduceMul, Nat.reduceSub, Nat.reduceBEq, Nat.reduceGT, Nat.reduceLT, Int.reduceLE, Int.reduceLT, Int.reduceNeg, reduceCtorEq], by omega, by omega, h6, ok, hoff, hfu, hroom, by omega, tgd.sub (fun _ h => h) rfl rfl, fl6, wl6, td6, hT, tellL, tellW, by omega, by omega, by omega, hLb, hWb, hTb, nw6⟩, by omega⟩
      have hz1 : ¬ u.kind < 1 := by omega
      have hz2 : ¬ (6 : Int) < u.kind := by omega
      have wb1 : IntKind.u8.wrap (i : Int) = (i : Int) % 256 := wu8 _
      have wb2 : IntKind.u8.wrap (ishr .i64 (i : Int) 8) = (i : Int) / 256 % 256 := by
        rw [wu8, ishr_eq (by omega) (by decide)]
        rfl
      have oL : ∀ g, F6 g → g < H6.size := fun g hg => by obtain ⟨_, _, _, _, _, q⟩ := h6; exact q.lt g hg
      have x7 : Ext H6 (H6.push (.cells #[.int .u8 ((i : Int) % 256), .int .u8 ((i : Int) / 256 % 256), .int .u8 7] 5)) := Ext.push _
      have tg7 : Ints (H6.push (.cells #[.int .u8 ((i : Int) % 256), .int .u8 ((i : Int) / 256 % 256), .int .u8 7] 5)) 5 .u8 (.slice (some ⟨H6.size, 0, none⟩) 3 3) (tagL i) := lit_ints rfl rfl
      have st8 : StepH (H6.push (.cells #[.int .u8 ((i : Int) % 256), .int .u8 ((i : Int) / 256 % 256), .int .u8 7] 5)) H'.size u := st7.ext x7
      have hs7 : H6.size < (H6.push (.cells #[.int .u8 ((i : Int) % 256), .int .u8 ((i : Int) / 256 % 256), .int .u8 7] 5)).size := by simp
      have tgN : ∀ {G : Heap}, H6.size < G.size → ∀ q, blk (Value.slice (some ⟨H6.size, 0, none⟩) 3 3) = some q → NT F6 G tv q := fun hG q hq => by
        simp only [blk, Option.some.injEq] at hq
        subst hq
        exact ⟨⟨hG, fun e => by have := oL _ e; omega⟩, fun e => by have := (td6.out _ e).1; omega⟩
      have nw7 := nw6.ext x7
      have h7 := h6.ext x7
      have fl7 := RecN.extT fl6 x7
      have wl7 := RecN.extT wl6 x7
      have td7 := td6.ext x7
      have hasv : ∀ {y : Nat}, s.now (nameS u.i) = some y → ∃ q : Nat, hasS L (nameS u.i) = q ∧ L[q]? = some (nameS u.i, s.dat y) := fun {y} hy => by
        have hl : lkp L (nameS u.i) = some (s.dat y) := by rw [tellL.2, hy]; rfl
        cases hh : hasN L (nameS u.i) with
        | none => rw [hasN_none.1 hh] at hl; cases hl
        | some q =>
          obtain ⟨d, h1, h2⟩ := hasN_some hh
          rw [hl] at h2
          cases h2
          exact ⟨q, by unfold hasS; rw [hh], h1⟩
      rcases Classical.em (u.kind = 1) with hu1 | hu1
      case' inl =>
        have sg0 := st7.g0
        have sg8 := st8.g0
        rw [hu1] at sg0 sg8
        obtain ⟨hnone, hds⟩ := made_create hfu hoff hu1 he
        have hm1 : hasS L (nameS u.i) = -1 := by
          unfold hasS
          rw [hasN_none.2 (by rw [tellL.2, hnone]; rfl)]
        have hnn := nameS_nm u.i
        have hhl : heldS s + 3 ≤ s.room := by rw [tgd.held, hroom]; have := ok.hlen; omega
        rw [hds] at h7 ok6
        simp only [go_sem, ↓reduceIte, Nat.reduceEqDiff, Nat.reduceLeDiff, Nat.reduceAdd, Nat.reduceMul, Nat.reduceSub, Nat.reduceBEq, Nat.reduceGT, Nat.reduceLT, Int.reduceLE, Int.reduceLT, Int.reduceNeg, reduceCtorEq, e0, e1, e6, e7, e8, e9, e10, he, sg0, sg8, st7.g1, st8.g1, wb1, wb2, Int.reduceEq]
        clear sg0 sg8 st7 x7
        generalize H6.push (.cells #[.int .u8 ((i : Int) % 256), .int .u8 ((i : Int) / 256 % 256), .int .u8 7] 5) = H7 at *
        refine FunI.by (F16 u.i _) ?_
        rintro _ H8 ⟨rfl, x8⟩
        have h8 := h7.ext x8
        obtain ⟨mb, lb, hb, pv, dv, p8⟩ := h8
        simp only [go_sem, ↓reduceIte, Nat.reduceEqDiff, Nat.reduceLeDiff, Nat.reduceAdd, Nat.reduceMul, Nat.reduceSub, Nat.reduceBEq, Nat.reduceGT, Nat.reduceLT, Int.reduceLE, Int.reduceLT, Int.reduceNeg, reduceCtorEq, e6]
        refine FunI.by (F20 p8 ok6 (by show s.ops + 1 < _; omega) (nameS u.i) (xs := tagL i) (tg7.ext x8) (by simp [tagL])) ?_
        rintro _ H9 ⟨rfl, F9, h9, c9⟩
        have ok9 := append_ok ok6 (nameS u.i) (tagL_byt i)
        rw [made_append hx hnn hfu hoff hhl] at h9 ok9 ⊢
        have st9 : StepH H9 H'.size u := by
          have s8 := st8.ext x8
          have gg : ∀ j, hget H9 H'.size j = hget H8 H'.size j := fun j => by unfold hget; rw [c9.get _ s8.lt bk6.2]
          exact ⟨Nat.lt_of_lt_of_le s8.lt c9.size, by rw [gg]; exact s8.g0, by rw [gg]; exact s8.g1, by rw [gg]; exact s8.g2, by rw [gg]; exact s8.g3, by rw [gg]; exact s8.g4⟩
        simp only [go_sem, ↓reduceIte, Nat.reduceEqDiff, Nat.reduceLeDiff, Nat.reduceAdd, Nat.reduceMul, Nat.reduceSub, Nat.reduceBEq, Nat.reduceGT, Nat.reduceLT, Int.reduceLE, Int.reduceLT, Int.reduceNeg, reduceCtorEq, e6, st9.g1]
        refine FunI.by (F16 u.i _) ?_
        rintro _ H10 ⟨rfl, x10⟩
        have h10 := h9.ext x10
        obtain ⟨mb', lb', hb', pv', dv', p10⟩ := h10
        simp only [go_sem, ↓reduceIte, Nat.reduceEqDiff, Nat.reduceLeDiff, Nat.reduceAdd, Nat.reduceMul, Nat.reduceSub, Nat.reduceBEq, Nat.reduceGT, Nat.reduceLT, Int.reduceLE, Int.reduceLT, Int.reduceNeg, reduceCtorEq, e6]
        refine FunI.by (F21 p10 ok9 (by show s.ops + 2 < _; omega) (nameS u.i)) ?_
        rintro _ H11 ⟨rfl, F11, h11, c11⟩
        have ok11 := sync_ok ok9 (nameS u.i)
        rw [made_sync hnn hfu hoff] at h11 ok11 ⊢
        have bk9 : ¬ F9 H'.size := (Out.ch c9 _ (Out.ext x8 _ ⟨Nat.lt_trans bk6.1 hs7, bk6.2⟩)).2
        have st11 : StepH H11 H'.size u := by
          have s8 := st9.ext x10
          have gg : ∀ j, hget H11 H'.size j = hget H10 H'.size j := fun j => by unfold hget; rw [c11.get _ s8.lt bk9]
          exact ⟨Nat.lt_of_lt_of_le s8.lt c11.size, by rw [gg]; exact s8.g0, by rw [gg]; exact s8.g1, by rw [gg]; exact s8.g2, by rw [gg]; exact s8.g3, by rw [gg]; exact s8.g4⟩
        have w0 : IntKind.i64.wrap (0 + 0) = 0 := by decide
        simp only [go_sem, ↓reduceIte, Nat.reduceEqDiff, Nat.reduceLeDiff, Nat.reduceAdd, Nat.reduceMul, Nat.reduceSub, Nat.reduceBEq, Nat.reduceGT, Nat.reduceLT, Int.reduceLE, Int.reduceLT, Int.reduceNeg, reduceCtorEq]
        refine FunI.by (F22 _ _) ?_
        rintro _ _ ⟨rfl, rfl⟩
        simp only [go_sem, ↓reduceIte, Nat.reduceEqDiff, Nat.reduceLeDiff, Nat.reduceAdd, Nat.reduceMul, Nat.reduceSub, Nat.reduceBEq, Nat.reduceGT, Nat.reduceLT, Int.reduceLE, Int.reduceLT, Int.reduceNeg, reduceCtorEq]
        refine FunI.by (F22 _ _) ?_
        rintro _ _ ⟨rfl, rfl⟩
        have hlt0 : ¬ (0 : Int) ≤ -1 := by omega
        simp only [go_sem, ↓reduceIte, Nat.reduceEqDiff, Nat.reduceLeDiff, Nat.reduceAdd, Nat.reduceMul, Nat.reduceSub, Nat.reduceBEq, Nat.reduceGT, Nat.reduceLT, Int.reduceLE, Int.reduceLT, Int.reduceNeg, reduceCtorEq, w0, hm1, hlt0, e9, st11.g1, Int.reduceEq]
        refine FunI.by (F16 u.i _) ?_
        rintro _ H12 ⟨rfl, x12⟩
        have nw12 := (((((nw7.ext x8).ch c9).ext x10).ch c11).ext x12)
        have fl12 := RecN.extT (RecN.chT (RecN.extT (RecN.chT (RecN.extT fl7 x8) c9) x10) c11) x12
        have wl12 := RecN.extT (RecN.chT (RecN.extT (RecN.chT (RecN.extT wl7 x8) c9) x10) c11) x12
        have td12 := ((((td7.ext x8).ch c9).ext x10).ch c11).ext x12
        have tgN12 : ∀ q, blk (Value.slice (some ⟨H6.size, 0, none⟩) 3 3) = some q → NT F11 H12 tv q := fun q hq => by
          have h1 := tgN hs7 q hq
          exact ⟨Out.ext x12 _ (Out.ch c11 _ (Out.ext x10 _ (Out.ch c9 _ (Out.ext x8 _ h1.1)))), h1.2⟩
        have tg12 : Ints H12 5 .u8 (.slice (some ⟨H6.size, 0, none⟩) 3 3) (tagL i) := by
          have b6 : ∀ q, blk (Value.slice (some ⟨H6.size, 0, none⟩) 3 3) = some q → ¬ F6 q := fun q hq => (tgN hs7 q hq).1.2
          have b9 : ∀ q, blk (Value.slice (some ⟨H6.size, 0, none⟩) 3 3) = some q → ¬ F9 q := fun q hq => (Out.ch c9 _ (Out.ext x8 _ (tgN hs7 q hq).1)).2
          exact Sl.ext (Sl.ch (Sl.ext (Sl.ch (Sl.ext tg7 x8) c9 b6) x10) c11 b9) x12
        have oL12 : ∀ g, F11 g → g < H12.size := fun g hg => by obtain ⟨_, _, _, _, _, q⟩ := h11.ext x12; exact q.lt g hg
        simp only [go_sem, ↓reduceIte, Nat.reduceEqDiff, Nat.reduceLeDiff, Nat.reduceAdd, Nat.reduceMul, Nat.reduceSub, Nat.reduceBEq, Nat.reduceGT, Nat.reduceLT, Int.reduceLE, Int.reduceLT, Int.reduceNeg, reduceCtorEq, e9]
        have hFT : ∀ {G : Heap} {F : Nat → Prop} {s : St}, Todo H.size G F tv PT → FsH G F b s → ∀ g, F g → ¬ blk tv = some g := fun td _ g hg e => (td.out g e).2 hg
        refine RunI.by (td12.add nw12.1.size oL12 (x := (nameS u.i, tagL i)) tg12 tgN12 (by omega)) ?_
        rintro tv' H13 ⟨td13, kf, ki, gc, gu⟩
        have h13 := (h11.ext x12).other gc (hFT td12 (h11.ext x12))
        have tg13 := tgd
        have hdx : ∀ y ∈ s.held, (madeS s x (nameS u.i) i).dat y = s.dat y := fun y hy => by
          have : y ≠ x := fun e => hx (e ▸ hy)
          simp [madeS, setF, this]
        have q9 : ∃ (Hc : Heap) (s9 : St) (F9 : Nat → Prop) (tv9 dv : Value) (n9 : Nm) (tag9 : List Int), Hc = H13 ∧ tv9 = tv' ∧ FsH Hc F9 b s9 ∧ Ok s9 ∧ s9.off = false ∧ s9.fuse = 0 ∧ s9.room = 2147483647 ∧ s9.ops ≤ 3 * (i + 1) ∧ Tagged (i + 1) s9 ∧ FilesN Hc (NT F9 Hc tv9) fv L ∧ FilesN Hc (NT F9 Hc tv9) wv W ∧ Todo H.size Hc F9 tv9 (PT ++ [(dv, (n9, tag9))]) ∧
            (PT ++ [(dv, (n9, tag9))]).map (·.2) = s9.pend.map (fun p => (p.2, s9.dat p.1)) ∧ Tells s9.now s9.dat (namedS L tag9 n9) ∧ Tells s9.last s9.dat W ∧ Byt tag9 ∧ tag9.length ≤ 3 ∧ Newly H Hc F9 := by
          refine ⟨H13, _, F11, tv', _, _, _, rfl, rfl, h13.1, ok11, hoff, hfu, hroom, by show s.ops + 3 ≤ _; omega, made_tagged hl2 tgd hx _, kf fl12, kf wl12, td13, ?_, ?_, ?_, tagL_byt i, by simp [tagL], ⟨nw12.1.trans gu, nw12.2⟩⟩
          · rw [List.map_append, hT]
            show _ = (s.pend ++ [(x, nameS u.i)]).map _
            rw [List.map_append]
            congr 1
            · refine List.map_congr_left fun p hp => ?_
              rw [hdx p.1 (ok.pendH p hp)]
            · show [(nameS u.i, tagL i)] = [(nameS u.i, (madeS s x (nameS u.i) i).dat x)]
              simp [madeS, setF]
          · have t1 : Tells s.now (madeS s x (nameS u.i) i).dat L := tells_congr tellL fun n y hy => hdx y (ok.nowH _ _ hy)
            have mt := made_tagged hl2 tgd hx (nameS u.i)
            have hxe : (madeS s x (nameS u.i) i).dat x = tagL i := by simp [madeS, setF]
            have := tells_named t1 (hs := s.held ++ [x]) (fun n f hf => List.mem_append_left _ (ok.nowH n f hf)) ok.nowN mt.inj (x := x) (by simp) (nameS u.i)
            rw [hxe] at this
            exact this
          · exact tells_congr tellW fun n y hy => hdx y (ok.lastH _ _ hy)
      case' inr =>
        rcases Classical.em (u.kind = 6) with hu6 | hu6
        case' inl =>
          have sg0 := st7.g0
          have sg8 := st8.g0
          rw [hu6] at sg0 sg8
          have hds := dired hfu hu6 he
          rw [hds] at h7 ok6
          have n0 : ∀ {G : Heap} {w : Value} {M : List Fl}, FilesN G (NT F6 G tv) w M → FilesN G (NT F6 G (.slice none 0 0)) w M := fun h => h.more fun g hg => ⟨hg.1, by simp [blk]⟩
          simp only [go_sem, ↓reduceIte, Nat.reduceEqDiff, Nat.reduceLeDiff, Nat.reduceAdd, Nat.reduceMul, Nat.reduceSub, Nat.reduceBEq, Nat.reduceGT, Nat.reduceLT, Int.reduceLE, Int.reduceLT, Int.reduceNeg, reduceCtorEq, e0, e1, e6, e7, e8, e9, e10, he, sg0, sg8, wb1, wb2, w2, Int.reduceEq]
          exact ⟨Hold.mk ⟨i + 1, _, F6, L, L, [], fv, fv, .slice none 0 0, by simp only [go_sem, ↓reduceIte, Nat.reduceEqDiff, Nat.reduceLeDiff, Nat.reduceAdd, Nat.reduceMul, Nat.reduceSub, Nat.reduceBEq, Nat.reduceGT, Nat.reduceLT, Int.reduceLE, Int.reduceLT, Int.reduceNeg, reduceCtorEq, e0], by simp only [go_sem, ↓reduceIte, Nat.reduceEqDiff, Nat.reduceLeDiff, Nat.reduceAdd, Nat.reduceMul, Nat.reduceSub, Nat.reduceBEq, Nat.reduceGT, Nat.reduceLT, Int.reduceLE, Int.reduceLT, Int.reduceNeg, reduceCtorEq, e1], by simp only [go_sem, ↓reduceIte, Nat.reduceEqDiff, Nat.reduceLeDiff, Nat.reduceAdd, Nat.reduceMul, Nat.reduceSub, Nat.reduceBEq, Nat.reduceGT, Nat.reduceLT, Int.reduceLE, Int.reduceLT, Int.reduceNeg, reduceCtorEq, e6], by simp only [go_sem, ↓reduceIte, Nat.reduceEqDiff, Nat.reduceLeDiff, Nat.reduceAdd, Nat.reduceMul, Nat.reduceSub, Nat.reduceBEq, Nat.reduceGT, Nat.reduceLT, Int.reduceLE, Int.reduceLT, Int.reduceNeg, reduceCtorEq, e7], by simp only [go_sem, ↓reduceIte, Nat.reduceEqDiff, Nat.reduceLeDiff, Nat.reduceAdd, Nat.reduceMul, Nat.reduceSub, Nat.reduceBEq, Nat.reduceGT, Nat.reduceLT, Int.reduceLE, Int.reduceLT, Int.reduceNeg, reduceCtorEq], by simp only [go_sem, ↓reduceIte, Nat.reduceEqDiff, Nat.reduceLeDiff, Nat.reduceAdd, Nat.reduceMul, Nat.reduceSub, Nat.reduceBEq, Nat.reduceGT, Nat.reduceLT, Int.reduceLE, Int.reduceLT, Int.reduceNeg, reduceCtorEq], by simp only [go_sem, ↓reduceIte, Nat.reduceEqDiff, Nat.reduceLeDiff, Nat.reduceAdd, Nat.reduceMul, Nat.reduceSub, Nat.reduceBEq, Nat.reduceGT, Nat.reduceLT, Int.reduceLE, Int.reduceLT, Int.reduceNeg, reduceCtorEq], by omega, by omega, h7, ok6, hoff, hfu, hroom, by show s.ops + 1 ≤ _; omega, tgd.sub (fun y hy => (List.mem_filter.1 hy).1) rfl rfl, n0 fl7, n0 fl7, ⟨RecO.nil, fun g hg => by simp [blk] at hg⟩, rfl, tellL, tellL, by omega, by omega, by simp, hLb, hLb, by simp, nw7⟩, by omega⟩
        have hk45 : u.kind = 4 ∨ u.kind = 5 := by omega
        obtain ⟨y, hy, hds⟩ := moved hfu hk45 he
        obtain ⟨q, hq, hLq⟩ := hasv hy
        have hql := (List.getElem?_eq_some_iff.1 hLq).1
        have cq0 : ¬ (q : Int) < 0 := by omega
        have cq1 : (0 : Int) ≤ q := by omega
        have cq2 : (q : Int) < L.length := by omega
        have hyh := ok.nowH _ _ hy
        rw [hds] at h7 ok6
        have tgs : Tagged (i + 1) s := tgd.sub (fun _ h => h) rfl rfl
        have tby : Byt (s.dat y) ∧ (s.dat y).length ≤ 3 := by
          obtain ⟨j, _, e⟩ := tgd.tag y hyh
          rw [e]; exact ⟨tagL_byt j, by simp [tagL]⟩
        have mk9 : ∀ (n9 : Nm), n9 = (if u.kind = 4 then nameS u.k else emptyNm) → ∀ {H12 : Heap}, Ext (H6.push (.cells #[.int .u8 ((i : Int) % 256), .int .u8 ((i : Int) / 256 % 256), .int .u8 7] 5)) H12 → ∀ {dv : Value}, Ints H12 5 .u8 dv (s.dat y) → (∀ g, blk dv = some g → NT F6 H12 tv g) → ∀ {C : Value → Heap → Prop},
            (∀ tv' H13, (∃ (Hc : Heap) (s9 : St) (F9 : Nat → Prop) (tv9 dv : Value) (n9 : Nm) (tag9 : List Int), Hc = H13 ∧ tv9 = tv' ∧ FsH Hc F9 b s9 ∧ Ok s9 ∧ s9.off = false ∧ s9.fuse = 0 ∧ s9.room = 2147483647 ∧ s9.ops ≤ 3 * (i + 1) ∧ Tagged (i + 1) s9 ∧ FilesN Hc (NT F9 Hc tv9) fv L ∧ FilesN Hc (NT F9 Hc tv9) wv W ∧ Todo H.size Hc F9 tv9 (PT ++ [(dv, (n9, tag9))]) ∧
              (PT ++ [(dv, (n9, tag9))]).map (·.2) = s9.pend.map (fun p => (p.2, s9.dat p.1)) ∧ Tells s9.now s9.dat (namedS L tag9 n9) ∧ Tells s9.last s9.dat W ∧ Byt tag9 ∧ tag9.length ≤ 3 ∧ Newly H Hc F9) → C tv' H13) →
            @RunI Try.prog (sAppend #[26, 26] #[tv, .slice (some ⟨H12.size, 0, none⟩) 1 1]) (H12.push (.cells #[.string n9, dv] 44)) ⟨C⟩ := by
          intro n9 hn9 H12 x12 dv hdv hdN C hC
          have h12 := h7.ext x12
          have oL12 : ∀ g, F6 g → g < H12.size := fun g hg => by obtain ⟨_, _, _, _, _, q⟩ := h12; exact q.lt g hg
          have nw12 := nw7.ext x12
          have td12 := td7.ext x12
          refine RunI.by (td12.add nw12.1.size oL12 (x := (n9, s.dat y)) hdv hdN (by omega)) ?_
          rintro tv' H13 ⟨td13, kf, ki, gc, gu⟩
          refine hC tv' H13 ⟨H13, _, F6, tv', _, _, _, rfl, rfl, (h12.other gc fun g hg e => (td12.out g e).2 hg).1, ok6, hoff, hfu, hroom, by show s.ops + 1 ≤ _; omega, ⟨tgs.tag, tgs.inj, tgs.syn⟩, kf (RecN.extT fl7 x12), kf (RecN.extT wl7 x12), td13, ?_, ?_, tellW, tby.1, tby.2, ⟨nw12.1.trans gu, nw12.2⟩⟩
          · rw [List.map_append, hT]
            show _ = (s.pend ++ [(y, _)]).map _
            rw [List.map_append, hn9]
            rfl
          · rw [hn9]
            exact tells_named tellL (hs := s.held) ok.nowH ok.nowN tgd.inj hyh _
        rcases hk45 with hu4 | hu5
        case' inl =>
          have sg0 := st7.g0
          have sg8 := st8.g0
          rw [hu4] at sg0 sg8
          simp only [go_sem, ↓reduceIte, Nat.reduceEqDiff, Nat.reduceLeDiff, Nat.reduceAdd, Nat.reduceMul, Nat.reduceSub, Nat.reduceBEq, Nat.reduceGT, Nat.reduceLT, Int.reduceLE, Int.reduceLT, Int.reduceNeg, reduceCtorEq, e0, e1, e6, e7, e8, e9, e10, he, sg0, sg8, st8.g2, wb1, wb2, hq, cq0, Int.reduceEq]
          clear sg0 sg8 st7 x7
          generalize H6.push (.cells #[.int .u8 ((i : Int) % 256), .int .u8 ((i : Int) / 256 % 256), .int .u8 7] 5) = H7 at *
          refine FunI.by (F16 u.k _) ?_
          rintro _ H12 ⟨rfl, x12⟩
          obtain ⟨P, hP, rp⟩ := RecN.extT fl7 x12
          have hPl : P.length = L.length := by have := congrArg List.length hP; rw [List.length_map] at this; exact this
          obtain ⟨fa, fc, hfv⟩ := rp.form
          rw [hPl] at hfv
          subst hfv
          obtain ⟨b2, o2, rfl⟩ := rp.at (show q < P.length by omega)
          obtain ⟨⟨w, z⟩, hPq⟩ : ∃ p, P[q]? = some p := ⟨_, List.getElem?_eq_getElem (by omega)⟩
          have hz : z = (nameS u.i, s.dat y) := by
            have : L[q]? = some z := by rw [← hP, List.getElem?_map, hPq]; rfl
            rw [hLq] at this; exact (Option.some.inj this).symm
          subst hz
          obtain ⟨gs, gd, gi, gN⟩ := RecP.e0 rp hPq
          obtain ⟨az, capz, rfl⟩ := Ints.form gi
          simp only [go_sem, ↓reduceIte, Nat.reduceEqDiff, Nat.reduceLeDiff, Nat.reduceAdd, Nat.reduceMul, Nat.reduceSub, Nat.reduceBEq, Nat.reduceGT, Nat.reduceLT, Int.reduceLE, Int.reduceLT, Int.reduceNeg, reduceCtorEq, e7, e9, hq, cq1, cq2, Int.toNat_natCast, gd]
          refine mk9 (nameS u.k) (by rw [if_pos hu4]) x12 gi gN ?_
          rintro tv' H13 q9
        case' inr =>
          have sg0 := st7.g0
          have sg8 := st8.g0
          rw [hu5] at sg0 sg8
          obtain ⟨P, hP, rp⟩ := fl7
          have hPl : P.length = L.length := by have := congrArg List.length hP; rw [List.length_map] at this; exact this
          obtain ⟨fa, fc, hfv⟩ := rp.form
          rw [hPl] at hfv
          subst hfv
          obtain ⟨b2, o2, rfl⟩ := rp.at (show q < P.length by omega)
          obtain ⟨⟨w, z⟩, hPq⟩ : ∃ p, P[q]? = some p := ⟨_, List.getElem?_eq_getElem (by omega)⟩
          have hz : z = (nameS u.i, s.dat y) := by
            have : L[q]? = some z := by rw [← hP, List.getElem?_map, hPq]; rfl
            rw [hLq] at this; exact (Option.some.inj this).symm
          subst hz
          obtain ⟨gs, gd, gi, gN⟩ := RecP.e0 rp hPq
          obtain ⟨az, capz, rfl⟩ := Ints.form gi
          simp only [go_sem, ↓reduceIte, Nat.reduceEqDiff, Nat.reduceLeDiff, Nat.reduceAdd, Nat.reduceMul, Nat.reduceSub, Nat.reduceBEq, Nat.reduceGT, Nat.reduceLT, Int.reduceLE, Int.reduceLT, Int.reduceNeg, reduceCtorEq, e0, e1, e6, e7, e8, e9, e10, he, sg0, sg8, wb1, wb2, hq, cq0, cq1, cq2, Int.toNat_natCast, gd, Int.reduceEq]
          refine mk9 ⟨#[]⟩ (by rw [if_neg (by omega)]; rfl) (Upto.refl _ _) gi gN ?_
          rintro tv' H13 q9
      all_goals
        obtain ⟨Hc, s9, F9, tv9, dv, n9, tag9, eH, eV, h9, ok9, off9, fu9, ro9, op9, tg9, fl9, wl9, td9, hT9, tN9, tW9, tb9, tl9, nw9⟩ := q9
        subst eH
        subst eV
        have rp9 : RecP fileK Hc (fun _ => True) 44 5 tv9 (PT ++ [(dv, (n9, tag9))]) := ⟨td9.own.1.sl, fun p hp => ⟨(td9.own.2 p hp).1, fun _ _ => trivial⟩, fun _ _ => trivial⟩
        have gN9 := (td9.own.2 (dv, (n9, tag9)) (List.mem_append_right _ (by simp))).2
        have hlen : (PT ++ [(dv, (n9, tag9))]).length = PT.length + 1 := by simp
        obtain ⟨ta, tc, hform⟩ := rp9.form
        rw [hlen] at hform
        subst hform
        obtain ⟨bt, ot, rfl⟩ := rp9.at (i := PT.length) (by omega)
        obtain ⟨gs9, gd9, gi9, _⟩ := RecP.e0 rp9 (i := PT.length) (u := dv) (x := (n9, tag9)) (by simp)
        obtain ⟨da, dc, rfl⟩ := Ints.form gi9
        have wl : IntKind.i64.wrap (((PT.length + 1 : Nat) : Int) - 1) = (PT.length : Int) := by rw [w64_id (by omega) (by omega)]; omega
        have cT0 : (0 : Int) ≤ (PT.length : Int) := by omega
        have cT1 : (PT.length : Int) < ((PT.length + 1 : Nat) : Int) := by omega
        have n2 : hcan (Hc.push (.cells #[.string ⟨#[]⟩, .slice none 0 0] 44)) Hc.size 0 2 := hcan_of push_new (by simp)
        have n3 : hput (Hc.push (.cells #[.string ⟨#[]⟩, .slice none 0 0] 44)) Hc.size 0 [.string n9, .slice da tag9.length dc] = Hc.push (.cells #[.string n9, .slice da tag9.length dc] 44) := hput_push rfl
        have y4 : Ext Hc (Hc.push (.cells #[.string n9, .slice da tag9.length dc] 44)) := Ext.push _
        have n4 : hget (Hc.push (.cells #[.string n9, .slice da tag9.length dc] 44)) Hc.size 0 = some (.string n9) := by unfold hget; rw [push_new]; rfl
        have n5 : hget (Hc.push (.cells #[.string n9, .slice da tag9.length dc] 44)) Hc.size 1 = some (.slice da tag9.length dc) := by unfold hget; rw [push_new]; rfl
        simp only [go_sem, ↓reduceIte, Nat.reduceEqDiff, Nat.reduceLeDiff, Nat.reduceAdd, Nat.reduceMul, Nat.reduceSub, Nat.reduceBEq, Nat.reduceGT, Nat.reduceLT, Int.reduceLE, Int.reduceLT, Int.reduceNeg, reduceCtorEq, e6, e7, e10, wl, cT0, cT1, Int.toNat_natCast, gs9, gd9, hgets2, Option.bind_some, Nat.zero_add, n2, n3, n4, n5]
        refine ⟨rfl, ?_⟩
        clear n2 n3 n4 n5
        generalize Hc.push (.cells #[.string n9, .slice da tag9.length dc] 44) = G at *
        have F9lt : ∀ g, F9 g → g < Hc.size := fun g hg => by obtain ⟨_, _, _, _, _, q⟩ := h9; exact q.lt g hg
        have btlt : bt < Hc.size := (td9.out bt rfl).1
        have fl10 := RecN.extT fl9 y4
        have nt10 : ∀ g, blk (Value.slice da tag9.length dc) = some g → NT F9 G (.slice (some ⟨bt, ot, none⟩) (PT.length + 1) tc) g := fun g hg => ⟨Out.ext y4 g (gN9 g hg).1, (gN9 g hg).2⟩
        have hN10 : ∀ g, NT F9 G (.slice (some ⟨bt, ot, none⟩) (PT.length + 1) tc) g → g < G.size := fun g hg => hg.1.1
        have hb10 : ∀ x ∈ L, Byt x.2 := fun x hx => (hLb x hx).1
        have gi10 := gi9.ext y4
        have gi11 : Ints G 5 .u8 (.slice da tag9.length dc) tag9 := gi10
        have hL1 : L.length ≤ 1000000 := Nat.le_trans hL (Nat.le_trans hi3 (by decide))
        refine FunI.by (F23 fl10 hN10 hL1 hb10 gi11 nt10 tb9 n9) ?_
        rintro fv' H14 ⟨fn14, x14⟩
        have y14 : Ext Hc H14 := y4.trans (x14.mono y4.size)
        have np := named_props (n := n9) hLb ⟨tb9, tl9⟩
        simp only [go_sem, ↓reduceIte, Nat.reduceEqDiff, Nat.reduceLeDiff, Nat.reduceAdd, Nat.reduceMul, Nat.reduceSub, Nat.reduceBEq, Nat.reduceGT, Nat.reduceLT, Int.reduceLE, Int.reduceLT, Int.reduceNeg, reduceCtorEq, e10, w2]
        refine ⟨Hold.mk ⟨i + 1, s9, F9, namedS L tag9 n9, W, _, fv', wv, _, by simp only [go_sem, ↓reduceIte, Nat.reduceEqDiff, Nat.reduceLeDiff, Nat.reduceAdd, Nat.reduceMul, Nat.reduceSub, Nat.reduceBEq, Nat.reduceGT, Nat.reduceLT, Int.reduceLE, Int.reduceLT, Int.reduceNeg, reduceCtorEq, e0], by simp only [go_sem, ↓reduceIte, Nat.reduceEqDiff, Nat.reduceLeDiff, Nat.reduceAdd, Nat.reduceMul, Nat.reduceSub, Nat.reduceBEq, Nat.reduceGT, Nat.reduceLT, Int.reduceLE, Int.reduceLT, Int.reduceNeg, reduceCtorEq, e1], by simp only [go_sem, ↓reduceIte, Nat.reduceEqDiff, Nat.reduceLeDiff, Nat.reduceAdd, Nat.reduceMul, Nat.reduceSub, Nat.reduceBEq, Nat.reduceGT, Nat.reduceLT, Int.reduceLE, Int.reduceLT, Int.reduceNeg, reduceCtorEq, e6], by simp only [go_sem, ↓reduceIte, Nat.reduceEqDiff, Nat.reduceLeDiff, Nat.reduceAdd, Nat.reduceMul, Nat.reduceSub, Nat.reduceBEq, Nat.reduceGT, Nat.reduceLT, Int.reduceLE, Int.reduceLT, Int.reduceNeg, reduceCtorEq], by simp only [go_sem, ↓reduceIte, Nat.reduceEqDiff, Nat.reduceLeDiff, Nat.reduceAdd, Nat.reduceMul, Nat.reduceSub, Nat.reduceBEq, Nat.reduceGT, Nat.reduceLT, Int.reduceLE, Int.reduceLT, Int.reduceNeg, reduceCtorEq, e8], by simp only [go_sem, ↓reduceIte, Nat.reduceEqDiff, Nat.reduceLeDiff, Nat.reduceAdd, Nat.reduceMul, Nat.reduceSub, Nat.reduceBEq, Nat.reduceGT, Nat.reduceLT, Int.reduceLE, Int.reduceLT, Int.reduceNeg, reduceCtorEq], by simp only [go_sem, ↓reduceIte, Nat.reduceEqDiff, Nat.reduceLeDiff, Nat.reduceAdd, Nat.reduceMul, Nat.reduceSub, Nat.reduceBEq, Nat.reduceGT, Nat.reduceLT, Int.reduceLE, Int.reduceLT, Int.reduceNeg, reduceCtorEq], by omega, by omega, h9.ext y14, ok9, off9, fu9, ro9, by omega, tg9, fn14.more fun g hg => ?_, RecN.extT wl9 y14, td9.ext y14, hT9, tN9, tW9, by omega, by omega, by omega, np.1, hWb, fun p hp => ?_, nw9.ext y14⟩, by omega⟩
        · rcases hg with hg | hg
          · exact ⟨Out.ext x14 _ hg.1, hg.2⟩
          · have h1 : Hc.size ≤ g := Nat.le_trans y4.size hg.1
            exact ⟨⟨hg.2, fun e => by have := F9lt g e; omega⟩, fun e => by simp only [blk, Option.some.injEq] at e; omega⟩
        · rcases List.mem_append.1 hp with hp | hp
          · exact hTb p hp
          · simp only [List.mem_singleton] at hp; subst hp; exact ⟨tb9, tl9⟩
  have hvL : viewS s = lkp L := by funext n; rw [tellL.2 n]; rfl
  have flO : FilesN H' (Out F H') fv L := hfl.more fun g hg => hg.1
  have hlT : PT.length = s.pend.length := by have := congrArg List.length hT; simpa using this
  obtain ⟨ta, tc, hform⟩ := RecP.form (R := fileK) (N := fun _ => True) (H := H') (e := 44) (eb := 5) (v := tv) (P := PT) ⟨htd.own.1.sl, fun p hp => ⟨(htd.own.2 p hp).1, fun _ _ => trivial⟩, fun _ _ => trivial⟩
  subst hform
  by_cases hl1 : (i : Int) < os.length
  case' pos =>
    have hl2 : ¬ (i : Int) < 200 := by omega
    simp only [go_sem, ↓reduceIte, Nat.reduceEqDiff, Nat.reduceLeDiff, Nat.reduceAdd, Nat.reduceMul, Nat.reduceSub, Nat.reduceBEq, Nat.reduceGT, Nat.reduceLT, Int.reduceLE, Int.reduceLT, Int.reduceNeg, reduceCtorEq, c4_L0, e0, e1, e6, e7, e8, e9, e10, hl1, hl2]
  case' neg =>
    simp only [go_sem, ↓reduceIte, Nat.reduceEqDiff, Nat.reduceLeDiff, Nat.reduceAdd, Nat.reduceMul, Nat.reduceSub, Nat.reduceBEq, Nat.reduceGT, Nat.reduceLT, Int.reduceLE, Int.reduceLT, Int.reduceNeg, reduceCtorEq, c4_L0, e0, e1, e6, e7, e8, e9, e10, hl1]
  all_goals
    refine FunI.by (F19 hfs ok (by omega) hoff flO tellL.1 hvL (fun y hy => ⟨(hLb y hy).1, by have := (hLb y hy).2; omega⟩) (by omega)) ?_
    rintro _ H3 ⟨rfl, x3⟩
    have h3 := hfs.ext x3
    simp only [go_sem, ↓reduceIte, Nat.reduceEqDiff, Nat.reduceLeDiff, Nat.reduceAdd, Nat.reduceMul, Nat.reduceSub, Nat.reduceBEq, Nat.reduceGT, Nat.reduceLT, Int.reduceLE, Int.reduceLT, Int.reduceNeg, reduceCtorEq, e1, e6, e8, e9]
    refine FunI.by (F24 h3) ?_
    rintro _ _ ⟨rfl, rfl⟩
    obtain ⟨mb, lb, hb, pv, dv, p3⟩ := h3
    simp only [go_sem, ↓reduceIte, Nat.reduceEqDiff, Nat.reduceLeDiff, Nat.reduceAdd, Nat.reduceMul, Nat.reduceSub, Nat.reduceBEq, Nat.reduceGT, Nat.reduceLT, Int.reduceLE, Int.reduceLT, Int.reduceNeg, reduceCtorEq, e1, e6, e8, e9]
    refine FunI.by (F25 p3 ok (by omega) dir (cuts := []) Ints.nil (fun h => absurd rfl h)) ?_
    rintro _ H4 ⟨ns, F4, hns, h4, c4⟩
    have nw4 := (nw.ext x3).ch c4
    have wl4 := RecN.chT (RecN.extT hwl x3) c4
    have td4 := (htd.ext x3).ch c4
    have ok4 := crash_ok ok dir [] ns
    obtain ⟨z1, z2, z3, z4, z5, z6, _⟩ := crash_ops s dir [] ns
    have hAh := afterD_held (hs := s.held) (dir := dir) s.pend 0 ok.lastH ok.pendH
    have hd4 : (crashS s dir [] ns).dat = s.dat := cuts_none ns 0 { s with now := afterD s.last dir s.pend 0 } fun n hn y hy => tgd.syn y (hAh n y hy)
    have hv4 : ∀ {W : List Fl}, Tells (afterD s.last dir s.pend 0) s.dat W → viewS (crashS s dir [] ns) = lkp W := fun ht => by
      funext n
      rw [ht.2 n]
      unfold viewS
      rw [hd4, z6]
    generalize crashS s dir [] ns = s4 at *
    simp only [go_sem, ↓reduceIte, Nat.reduceEqDiff, Nat.reduceLeDiff, Nat.reduceAdd, Nat.reduceMul, Nat.reduceSub, Nat.reduceBEq, Nat.reduceGT, Nat.reduceLT, Int.reduceLE, Int.reduceLT, Int.reduceNeg, reduceCtorEq, e1, e6, e8, e9]
    refine LoopI.by mixed (fun ρ G => ∃ (j : Nat) (V : List Fl) (wv : Value), ρ 1 = .int .i64 dir ∧ ρ 6 = ptrOf b ∧ ρ 8 = wv ∧ ρ 9 = .slice ta PT.length tc ∧ ρ 19 = .bool true ∧ ρ 20 = .int .i64 s.pend.length ∧ ρ 21 = .int .i64 j ∧ j ≤ PT.length ∧ FilesN G (NT F4 G (.slice ta PT.length tc)) wv V ∧ Tells (afterD s.last dir (s.pend.take j) 0) s.dat V ∧ V.length ≤ 200 + j ∧ (∀ x ∈ V, Byt x.2 ∧ x.2.length ≤ 3) ∧ Ext H4 G) (fun ρ _ => PT.length - (iof (ρ 21)).toNat) ?_ ?_
    · exact ⟨0, W, wv, by simp only [go_sem, ↓reduceIte, Nat.reduceEqDiff, Nat.reduceLeDiff, Nat.reduceAdd, Nat.reduceMul, Nat.reduceSub, Nat.reduceBEq, Nat.reduceGT, Nat.reduceLT, Int.reduceLE, Int.reduceLT, Int.reduceNeg, reduceCtorEq, e1], by simp only [go_sem, ↓reduceIte, Nat.reduceEqDiff, Nat.reduceLeDiff, Nat.reduceAdd, Nat.reduceMul, Nat.reduceSub, Nat.reduceBEq, Nat.reduceGT, Nat.reduceLT, Int.reduceLE, Int.reduceLT, Int.reduceNeg, reduceCtorEq, e6], by simp only [go_sem, ↓reduceIte, Nat.reduceEqDiff, Nat.reduceLeDiff, Nat.reduceAdd, Nat.reduceMul, Nat.reduceSub, Nat.reduceBEq, Nat.reduceGT, Nat.reduceLT, Int.reduceLE, Int.reduceLT, Int.reduceNeg, reduceCtorEq, e8], by simp only [go_sem, ↓reduceIte, Nat.reduceEqDiff, Nat.reduceLeDiff, Nat.reduceAdd, Nat.reduceMul, Nat.reduceSub, Nat.reduceBEq, Nat.reduceGT, Nat.reduceLT, Int.reduceLE, Int.reduceLT, Int.reduceNeg, reduceCtorEq, e9], by simp only [go_sem, ↓reduceIte, Nat.reduceEqDiff, Nat.reduceLeDiff, Nat.reduceAdd, Nat.reduceMul, Nat.reduceSub, Nat.reduceBEq, Nat.reduceGT, Nat.reduceLT, Int.reduceLE, Int.reduceLT, Int.reduceNeg, reduceCtorEq], by simp only [go_sem, ↓reduceIte, Nat.reduceEqDiff, Nat.reduceLeDiff, Nat.reduceAdd, Nat.reduceMul, Nat.reduceSub, Nat.reduceBEq, Nat.reduceGT, Nat.reduceLT, Int.reduceLE, Int.reduceLT, Int.reduceNeg, reduceCtorEq], by simp only [go_sem, ↓reduceIte, Nat.reduceEqDiff, Nat.reduceLeDiff, Nat.reduceAdd, Nat.reduceMul, Nat.reduceSub, Nat.reduceBEq, Nat.reduceGT, Nat.reduceLT, Int.reduceLE, Int.reduceLT, Int.reduceNeg, reduceCtorEq] <;> rfl, by omega, wl4, by simpa [afterD] using tellW, by omega, hWb, Upto.refl _ _⟩
    rintro ρ2 G ⟨j, V, wv', r1, r6, r8, r9, r19, r20, r21, hj, vl, tellV, hVl, hVb, xg⟩
    have tdG := td4.ext xg
    by_cases hjl : j < PT.length
    · have c0 : (0 : Int) ≤ j := by omega
      have c1 : (j : Int) < PT.length := by omega
      have w2 : IntKind.i64.wrap ((j : Int) + 1) = ((j + 1 : Nat) : Int) := by rw [w64_id (by omega) (by omega)]; omega
      have rpG : RecP fileK G (fun _ => True) 44 5 (.slice ta PT.length tc) PT := ⟨tdG.own.1.sl, fun p hp => ⟨(tdG.own.2 p hp).1, fun _ _ => trivial⟩, fun _ _ => trivial⟩
      obtain ⟨bt, ot, rfl⟩ := rpG.at hjl
      obtain ⟨⟨dv', z⟩, hPj⟩ : ∃ p, PT[j]? = some p := ⟨_, List.getElem?_eq_getElem hjl⟩
      obtain ⟨gs9, gd9, gi9, _⟩ := RecP.e0 rpG hPj
      have gN9 := (tdG.own.2 _ (List.mem_of_getElem? hPj)).2
      obtain ⟨da, dc, rfl⟩ := Ints.form gi9
      obtain ⟨p, hpj, hpz⟩ : ∃ p, s.pend[j]? = some p ∧ z = (p.2, s.dat p.1) := by
        have h1 : (PT.map (·.2))[j]? = some z := by rw [List.getElem?_map, hPj]; rfl
        rw [hT, List.getElem?_map] at h1
        obtain ⟨p, a, b⟩ := Option.map_eq_some_iff.1 h1
        exact ⟨p, a, b.symm⟩
      have hpm := List.mem_of_getElem? hpj
      have hpl := (List.getElem?_eq_some_iff.1 hpj).1
      have emin : (if (63 : Int) < (j : Int) then (63 : Int) else (j : Int)) = ((min j 63 : Nat) : Int) := by split <;> omega
      have wu : IntKind.u64.wrap ((min j 63 : Nat) : Int) = ((min j 63 : Nat) : Int) := by rw [wu64]; omega
      have cu : (0 : Int) ≤ ((min j 63 : Nat) : Int) := by omega
      have hbit : (ibits .and .i64 (ishr .i64 dir ((min j 63 : Nat) : Int)) 1 = 1) ↔ bitI dir j = true := by
        rw [and_one, shr_eq]
        unfold bitI
        simp only [decide_eq_true_eq]
        omega
      have hst : afterD s.last dir (s.pend.take (j + 1)) 0 = if bitI dir j then moveD (afterD s.last dir (s.pend.take j) 0) p.1 p.2 else afterD s.last dir (s.pend.take j) 0 := by
        rw [List.take_add_one, hpj]
        show afterD s.last dir (s.pend.take j ++ [p]) 0 = _
        rw [after_snoc, List.length_take, Nat.zero_add, Nat.min_eq_left (by omega)]
      by_cases hb : bitI dir j = true
      · have hb1 := hbit.2 hb
        rw [if_pos hb] at hst
        have hDh := afterD_held (hs := s.held) (dir := dir) (s.pend.take j) 0 ok.lastH fun q hq => ok.pendH q (List.mem_of_mem_take hq)
        have hDn := afterD_nm (dir := dir) (s.pend.take j) 0 ok.lastN fun q hq => ok.pendN q (List.mem_of_mem_take hq)
        have F4lt : ∀ g, F4 g → g < H4.size := fun g hg => by obtain ⟨_, _, _, _, _, q⟩ := h4; exact q.lt g hg
        have zb : Byt z.2 ∧ z.2.length ≤ 3 := hTb _ (List.mem_of_getElem? hPj)
        simp only [go_sem, ↓reduceIte, Nat.reduceEqDiff, Nat.reduceLeDiff, Nat.reduceAdd, Nat.reduceMul, Nat.reduceSub, Nat.reduceBEq, Nat.reduceGT, Nat.reduceLT, Int.reduceLE, Int.reduceLT, Int.reduceNeg, reduceCtorEq, c4_L1, r1, r6, r8, r9, r19, r20, r21, c0, c1, emin, wu, cu, hb1, Int.toNat_natCast, gs9, gd9, w2]
        refine FunI.by (F23 vl (fun g hg => hg.1.1) (by omega) (fun x hx => (hVb x hx).1) gi9 gN9 zb.1 z.1) ?_
        rintro wv2 G2 ⟨fn2, xg2⟩
        have np := named_props (n := z.1) hVb zb
        simp only [go_sem, ↓reduceIte, Nat.reduceEqDiff, Nat.reduceLeDiff, Nat.reduceAdd, Nat.reduceMul, Nat.reduceSub, Nat.reduceBEq, Nat.reduceGT, Nat.reduceLT, Int.reduceLE, Int.reduceLT, Int.reduceNeg, reduceCtorEq, r21, w2]
        refine ⟨Hold.mk ⟨j + 1, namedS V z.2 z.1, wv2, by simp only [go_sem, ↓reduceIte, Nat.reduceEqDiff, Nat.reduceLeDiff, Nat.reduceAdd, Nat.reduceMul, Nat.reduceSub, Nat.reduceBEq, Nat.reduceGT, Nat.reduceLT, Int.reduceLE, Int.reduceLT, Int.reduceNeg, reduceCtorEq, r1], by simp only [go_sem, ↓reduceIte, Nat.reduceEqDiff, Nat.reduceLeDiff, Nat.reduceAdd, Nat.reduceMul, Nat.reduceSub, Nat.reduceBEq, Nat.reduceGT, Nat.reduceLT, Int.reduceLE, Int.reduceLT, Int.reduceNeg, reduceCtorEq, r6], by simp only [go_sem, ↓reduceIte, Nat.reduceEqDiff, Nat.reduceLeDiff, Nat.reduceAdd, Nat.reduceMul, Nat.reduceSub, Nat.reduceBEq, Nat.reduceGT, Nat.reduceLT, Int.reduceLE, Int.reduceLT, Int.reduceNeg, reduceCtorEq], by simp only [go_sem, ↓reduceIte, Nat.reduceEqDiff, Nat.reduceLeDiff, Nat.reduceAdd, Nat.reduceMul, Nat.reduceSub, Nat.reduceBEq, Nat.reduceGT, Nat.reduceLT, Int.reduceLE, Int.reduceLT, Int.reduceNeg, reduceCtorEq, r9], by simp only [go_sem, ↓reduceIte, Nat.reduceEqDiff, Nat.reduceLeDiff, Nat.reduceAdd, Nat.reduceMul, Nat.reduceSub, Nat.reduceBEq, Nat.reduceGT, Nat.reduceLT, Int.reduceLE, Int.reduceLT, Int.reduceNeg, reduceCtorEq, r19], by simp only [go_sem, ↓reduceIte, Nat.reduceEqDiff, Nat.reduceLeDiff, Nat.reduceAdd, Nat.reduceMul, Nat.reduceSub, Nat.reduceBEq, Nat.reduceGT, Nat.reduceLT, Int.reduceLE, Int.reduceLT, Int.reduceNeg, reduceCtorEq, r20], by simp only [go_sem, ↓reduceIte, Nat.reduceEqDiff, Nat.reduceLeDiff, Nat.reduceAdd, Nat.reduceMul, Nat.reduceSub, Nat.reduceBEq, Nat.reduceGT, Nat.reduceLT, Int.reduceLE, Int.reduceLT, Int.reduceNeg, reduceCtorEq], by omega, fn2.more fun g hg => ?_, ?_, by omega, np.1, xg.trans (xg2.mono xg.size)⟩, by omega⟩
        · rcases hg with hg | hg
          · exact ⟨Out.ext xg2 _ hg.1, hg.2⟩
          · have h1 : H4.size ≤ g := Nat.le_trans xg.size hg.1
            have hbt := (td4.out bt rfl).1
            exact ⟨⟨hg.2, fun e => by have := F4lt g e; omega⟩, fun e => by simp only [blk, Option.some.injEq] at e; omega⟩
        · rw [hst, hpz]
          exact tells_named tellV hDh hDn tgd.inj (ok.pendH p hpm) p.2
      · have hb1 : ¬ ibits .and .i64 (ishr .i64 dir ((min j 63 : Nat) : Int)) 1 = 1 := fun e => hb (hbit.1 e)
        rw [if_neg hb] at hst
        simp only [go_sem, ↓reduceIte, Nat.reduceEqDiff, Nat.reduceLeDiff, Nat.reduceAdd, Nat.reduceMul, Nat.reduceSub, Nat.reduceBEq, Nat.reduceGT, Nat.reduceLT, Int.reduceLE, Int.reduceLT, Int.reduceNeg, reduceCtorEq, c4_L1, r1, r6, r8, r9, r19, r20, r21, c0, c1, emin, wu, cu, hb1, w2]
        exact ⟨Hold.mk ⟨j + 1, V, wv', by simp only [go_sem, ↓reduceIte, Nat.reduceEqDiff, Nat.reduceLeDiff, Nat.reduceAdd, Nat.reduceMul, Nat.reduceSub, Nat.reduceBEq, Nat.reduceGT, Nat.reduceLT, Int.reduceLE, Int.reduceLT, Int.reduceNeg, reduceCtorEq, r1], by simp only [go_sem, ↓reduceIte, Nat.reduceEqDiff, Nat.reduceLeDiff, Nat.reduceAdd, Nat.reduceMul, Nat.reduceSub, Nat.reduceBEq, Nat.reduceGT, Nat.reduceLT, Int.reduceLE, Int.reduceLT, Int.reduceNeg, reduceCtorEq, r6], by simp only [go_sem, ↓reduceIte, Nat.reduceEqDiff, Nat.reduceLeDiff, Nat.reduceAdd, Nat.reduceMul, Nat.reduceSub, Nat.reduceBEq, Nat.reduceGT, Nat.reduceLT, Int.reduceLE, Int.reduceLT, Int.reduceNeg, reduceCtorEq, r8], by simp only [go_sem, ↓reduceIte, Nat.reduceEqDiff, Nat.reduceLeDiff, Nat.reduceAdd, Nat.reduceMul, Nat.reduceSub, Nat.reduceBEq, Nat.reduceGT, Nat.reduceLT, Int.reduceLE, Int.reduceLT, Int.reduceNeg, reduceCtorEq, r9], by simp only [go_sem, ↓reduceIte, Nat.reduceEqDiff, Nat.reduceLeDiff, Nat.reduceAdd, Nat.reduceMul, Nat.reduceSub, Nat.reduceBEq, Nat.reduceGT, Nat.reduceLT, Int.reduceLE, Int.reduceLT, Int.reduceNeg, reduceCtorEq, r19], by simp only [go_sem, ↓reduceIte, Nat.reduceEqDiff, Nat.reduceLeDiff, Nat.reduceAdd, Nat.reduceMul, Nat.reduceSub, Nat.reduceBEq, Nat.reduceGT, Nat.reduceLT, Int.reduceLE, Int.reduceLT, Int.reduceNeg, reduceCtorEq, r20], by simp only [go_sem, ↓reduceIte, Nat.reduceEqDiff, Nat.reduceLeDiff, Nat.reduceAdd, Nat.reduceMul, Nat.reduceSub, Nat.reduceBEq, Nat.reduceGT, Nat.reduceLT, Int.reduceLE, Int.reduceLT, Int.reduceNeg, reduceCtorEq], by omega, vl, by rw [hst]; exact tellV, by omega, hVb, xg⟩, by omega⟩
    · have hje : j = PT.length := by omega
      subst hje
      have c1 : ¬ ((PT.length : Nat) : Int) < PT.length := by omega
      have hlT2 : ((s.pend.length : Nat) : Int) = PT.length := by omega
      rw [List.take_of_length_le (by omega)] at tellV
      simp only [go_sem, ↓reduceIte, Nat.reduceEqDiff, Nat.reduceLeDiff, Nat.reduceAdd, Nat.reduceMul, Nat.reduceSub, Nat.reduceBEq, Nat.reduceGT, Nat.reduceLT, Int.reduceLE, Int.reduceLT, Int.reduceNeg, reduceCtorEq, c4_L1, r1, r6, r8, r9, r19, r20, r21, c1, hlT2]
      refine FunI.by (F19 (h4.ext xg) ok4 (by omega) z3 (vl.more fun g hg => hg.1) tellV.1 (hv4 tellV) (fun y hy => ⟨(hVb y hy).1, by have := (hVb y hy).2; omega⟩) (by omega)) ?_
      rintro _ G2 ⟨rfl, xg2⟩
      simp only [go_sem, ↓reduceIte, Nat.reduceEqDiff, Nat.reduceLeDiff, Nat.reduceAdd, Nat.reduceMul, Nat.reduceSub, Nat.reduceBEq, Nat.reduceGT, Nat.reduceLT, Int.reduceLE, Int.reduceLT, Int.reduceNeg, reduceCtorEq]
      exact ((nw4.ext xg).ext xg2).1
end Go.Proofs.Ytmkheogjnlmkdaa
