/- ckpt.bounds: the numbers that a head announces are read off the payloads, each payload to its end; whatever the payloads hold. ckpt.dirty reads the bits off the last payload, as dspec says. Two values of type [4]int are unequal just if their numbers are. ckpt.Decode answers what decS says, for any head and payloads, and leaves all that there was. DERIVED: THE SHELF's CONTRACTS AT THIS DUMP, IN PLAIN WORDS (tools/lay-plain.mjs out of 'TryzShelf.lean', which tools/lay-shelf.mjs wrote): THE SAME DECLARATIONS UNDER THE SAME NAMES: 'import', 'namespace', 'open', 'def', 'theorem' AND NOTHING ELSE: no command of the shelf's: FOR A HAND-IN. Each laying: the table of numbers ('.._ren') and one theorem, a field a fact of the dump's own or the kernel's comparison; each contract: ONE APPLICATION. The name of a generation, by the library contract of strconv.Itoa; both packages name alike. The rows of a seat with tied tables: arguments opened, the tables, bounds. The reference reading of estimates: numbers off the payloads until there are enough; whatever the payloads hold. The chapter example of the checkpoints answers true wherever the table of powers of ten lies as it was laid. The reference decoder of checkpoints answers what rdecS says, for any head and payloads, and leaves all that there was. Plain laws of the number forms and of the checkpoints: what is read back is what was put, and what is taken is what is put. Plain laws of the checkpoints: both decoders answer alike; there and back; what is taken is what is encoded. Files written where nothing fails: plainly. A file of frames, read. The laws' put: a file written by the program. -/
import Derived.Test.YtgigigchjnnonaaGreatDoorVRdr
import Derived.Stop.BytesEq
import Derived.Laws.StructEq
import Derived.KernelRfl
import Derived.Shelf.Small.Bits
import Derived.Shelf.Strconv.Itoa0
import Derived.Shelf.Strconv.Itoa1
import Derived.Shelf.LaysM
import Derived.Shelf.Strconv.Itoa2
import Derived.Shelf.Strconv.Itoa3
import Derived.Ground.SlgmProg
import Derived.Shelf.SortM.Plain
import Derived.Shelf.SortM.SortNone
import Derived.Test.YtgigigchjnnonaaGreatDoorProg
import Derived.Lib.ItoaLen
import Derived.Test.YtgigigchjnnonaaGreatDoorVCard
import Derived.Test.YtgigigchjnnonaaGreatDoorVCrc
import Derived.Test.YtgigigchjnnonaaGreatDoorCards
import Derived.Test.YtgigigchjnnonaaGreatDoorTie
import Derived.Stop.LaidErr
import Derived.MakeChecks
import Derived.LaidMore
import Derived.Test.YtgigigchjnnonaaGreatDoorVHlp9
set_option linter.unusedSimpArgs false
set_option linter.unusedVariables false
set_option maxRecDepth 20000
namespace Go.Proofs.YtgigigchjnnonaaGreatDoor
open Go Go.V

/-- The first k numbers. -/
def rdN (xs : List Int) : Nat → List Int × (Nat × Int)
  | 0 => ([], (0, 0))
  | k + 1 => ((rdN xs k).1 ++ [rval xs (rdN xs k).2], rstep xs (rdN xs k).2)
theorem rdN_len (xs : List Int) : ∀ k, (rdN xs k).1.length = k
  | 0 => rfl
  | k + 1 => by simp [rdN, rdN_len xs k]
/-- All is read, and nothing was wrong. -/
def clean (xs : List Int) (s : Nat × Int) : Bool := decide (s.2 = 0 ∧ s.1 = xs.length)
def bspec : Nat → List (List Int) → Option (List Int × List (List Int))
  | 0, l => some ([], l)
  | _ + 1, [] => none
  | n + 1, xs :: l => if clean xs (rdN xs (min 200 (n + 1))).2 then (bspec (n + 1 - min 200 (n + 1)) l).map fun r => ((rdN xs (min 200 (n + 1))).1 ++ r.1, r.2) else none
theorem bspec_zero {l : List (List Int)} : bspec 0 l = some ([], l) := by cases l <;> rfl
theorem bspec_cons {n : Nat} {xs : List Int} {l : List (List Int)} (h : 0 < n) : bspec n (xs :: l) = if clean xs (rdN xs (min 200 n)).2 then (bspec (n - min 200 n) l).map fun r => ((rdN xs (min 200 n)).1 ++ r.1, r.2) else none := by
  cases n with
  | zero => omega
  | succ n => rfl
theorem bspec_nil {n : Nat} (h : 0 < n) : bspec n [] = none := by
  cases n with
  | zero => omega
  | succ n => rfl
theorem Rdr.keep {H H' : Heap} {B : Nat} {v : Value} {xs : List Int} {s : Nat × Int} (h : Rdr H B 209 v xs s) (hs : ∀ b, b < H.size → (∃ c e fr, H[b]? = some (.cells c e fr) ∧ e ≠ 3) → H'[b]? = H[b]?) : Rdr H' B 209 v xs s := by
  obtain ⟨b, u, h1, h2, h3, h4, h5⟩ := h
  exact ⟨b, u, h1, h2, (hs b (Array.getElem?_eq_some_iff.1 h3).1 ⟨_, _, _, h3, by decide⟩).trans h3, h4.keepT fun k c fr hk => hs k (Array.getElem?_eq_some_iff.1 hk).1 ⟨_, _, _, hk, by decide⟩, h5⟩

theorem Lists.tail {H : Heap} {e ee : TypeId} {b o len c : Nat} {rs : List (List Int)} (hr : Lists H e ee (.slice (some ⟨b, o, none⟩) len c) rs) (h : 1 ≤ len) :
    Lists H e ee (.slice (if c = 1 then some ⟨b, o, none⟩ else some ⟨b, o + 1, none⟩) (len - 1) (c - 1)) (rs.drop 1) := by
  obtain ⟨vs, hs, ha⟩ := hr
  have hl := hs.length
  have h2 := Sl.sub (l := 1) (h := len) (m := c) hs h (Nat.le_refl _) hs.lecap
  simp only [Nat.mul_one, Option.map_some, add_none] at h2
  rw [List.take_of_length_le (by simp; omega)] at h2
  exact ⟨_, h2, ha.drop 1⟩

set_option maxHeartbeats 1600000 in
set_option maxRecDepth 20000 in
theorem F39 (n : Int) (v : Value) (ls : List (List Int)) (H0 H : Heap) (hv : Lists H0 53 5 v ls) (hx0 : Ext H0 H) (hb : ∀ xs ∈ ls, Byt xs ∧ xs.length ≤ 140737488350000) (h0 : 0 ≤ n) (h1 : n ≤ 4294967296) :
    Fun Tryz.prog 39 #[.int .i64 n, v] H (fun r H' => Ext H H' ∧ match bspec n.toNat ls with
      | none => r = .tuple #[.slice none 0 0, .slice none 0 0, .bool false]
      | some (a, l) => ∃ va vl, r = .tuple #[va, vl, .bool true] ∧ V.Own H' H.size 3 1 va (a.map (.int .i64)) ∧ Lists H0 53 5 vl l ∧ ∀ xs ∈ l, xs ∈ ls) := by
  obtain ⟨m, rfl⟩ := Int.eq_ofNat_of_zero_le h0
  refine fun_of mixed (args := [_, _]) Tryz.func39 Tryz.ntmps39 b39 r39 rfl ?_
  simp only [go_sem, ↓reduceIte, Nat.reduceEqDiff, Nat.reduceLeDiff, Nat.reduceAdd, Nat.reduceMul, Nat.reduceSub, Nat.reduceBEq, Nat.reduceGT, Nat.reduceLT, Int.reduceLE, Int.reduceLT, Int.reduceNeg, reduceCtorEq]
  refine LoopI.by mixed (fun ρ H' => ∃ (acc : List Int) (v7 v1 : Value) (rs : List (List Int)), ρ 0 = .int .i64 m ∧ ρ 1 = v1 ∧ ρ 7 = v7 ∧ V.Own H' H.size 3 1 v7 (acc.map (.int .i64)) ∧ Lists H0 53 5 v1 rs ∧ (∀ xs ∈ rs, xs ∈ ls) ∧ acc.length ≤ m ∧
    bspec m ls = (bspec (m - acc.length) rs).map (fun r => (acc ++ r.1, r.2)) ∧ Ext H H') (fun ρ _ => slen (ρ 1)) ?_ ?_
  · exact ⟨[], _, _, ls, by simp only [go_sem, ↓reduceIte, Nat.reduceEqDiff, Nat.reduceLeDiff, Nat.reduceAdd, Nat.reduceMul, Nat.reduceSub, Nat.reduceBEq, Nat.reduceGT, Nat.reduceLT, Int.reduceLE, Int.reduceLT, Int.reduceNeg, reduceCtorEq], rfl, rfl, by simp only [go_sem, ↓reduceIte, Nat.reduceEqDiff, Nat.reduceLeDiff, Nat.reduceAdd, Nat.reduceMul, Nat.reduceSub, Nat.reduceBEq, Nat.reduceGT, Nat.reduceLT, Int.reduceLE, Int.reduceLT, Int.reduceNeg, reduceCtorEq]; exact V.Own.nil, by simp only [go_sem, ↓reduceIte, Nat.reduceEqDiff, Nat.reduceLeDiff, Nat.reduceAdd, Nat.reduceMul, Nat.reduceSub, Nat.reduceBEq, Nat.reduceGT, Nat.reduceLT, Int.reduceLE, Int.reduceLT, Int.reduceNeg, reduceCtorEq]; exact hv, fun _ h => h, by simp, by cases h : bspec m ls <;> simp, Upto.refl _ _⟩
  rintro ρ H1 ⟨acc, v7, v1, rs, e0, e1, e7, ho, hr, hin, hal, hbs, hx⟩
  obtain ⟨r1, r2, rfl⟩ := hr.form
  obtain ⟨s1, s2, rfl⟩ := (show Ints H1 3 .i64 v7 acc from ho.sl).form
  by_cases hlt : acc.length < m
  · have c1 : (acc.length : Int) < m := by omega
    by_cases hr0 : rs.length = 0
    · have c2 : (rs.length : Int) = 0 := by omega
      have hrs : rs = [] := List.eq_nil_of_length_eq_zero hr0
      simp only [go_sem, ↓reduceIte, Nat.reduceEqDiff, Nat.reduceLeDiff, Nat.reduceAdd, Nat.reduceMul, Nat.reduceSub, Nat.reduceBEq, Nat.reduceGT, Nat.reduceLT, Int.reduceLE, Int.reduceLT, Int.reduceNeg, reduceCtorEq, c39_L1, e0, e1, e7, c1, c2]
      rw [hbs, hrs, bspec_nil (by omega)]
      exact ⟨hx, trivial⟩
    · have c2 : ¬ (rs.length : Int) = 0 := by omega
      obtain ⟨rb, ro, rfl⟩ := hr.at (i := 0) (by omega)
      obtain ⟨u0, hu0, hi0⟩ := (hr.ext (hx0.trans (hx.mono hx0.size))).get (i := 0) (by omega)
      have c3 : (0 : Int) < rs.length := by omega
      rw [Nat.add_zero] at hu0
      simp only [go_sem, ↓reduceIte, Nat.reduceEqDiff, Nat.reduceLeDiff, Nat.reduceAdd, Nat.reduceMul, Nat.reduceSub, Nat.reduceBEq, Nat.reduceGT, Nat.reduceLT, Int.reduceLE, Int.reduceLT, Int.reduceNeg, reduceCtorEq, c39_L1, e0, e1, e7, c1, c2, c3, hu0, Int.toNat_zero, Nat.add_zero]
      obtain ⟨xs, hxs⟩ : ∃ xs, xs = rs.getD 0 [] := ⟨_, rfl⟩
      have hrs : rs = xs :: rs.drop 1 := by
        cases rs with
        | nil => simp at hr0
        | cons y ys => simp [hxs]
      have hxin : xs ∈ ls := hin _ (by rw [hrs]; simp)
      obtain ⟨hxw, hxl⟩ := hb _ hxin
      rw [← hxs] at hi0
      obtain ⟨k, hk⟩ : ∃ k : Nat, k = min 200 (m - acc.length) := ⟨_, rfl⟩
      have hw : IntKind.i64.wrap ((m : Int) - acc.length) = ((m - acc.length : Nat) : Int) := by rw [w64_id (by omega) (by omega)]; omega
      have hmin : (if ((m - acc.length : Nat) : Int) < 200 then ((m - acc.length : Nat) : Int) else 200) = (k : Int) := by split <;> omega
      refine FunI.by (F97 u0 xs H1 hi0 (by omega)) ?_
      rintro rd H2 ⟨hrd, hx2⟩
      have hrl : Lists H0 53 5 (.slice (if r2 = 1 then some ⟨rb, ro, none⟩ else some ⟨rb, ro + 1, none⟩) (rs.length - 1) (r2 - 1)) (rs.drop 1) := Lists.tail hr (by omega)
      have c4 : (1 : Int) ≤ rs.length := by omega
      simp only [go_sem, ↓reduceIte, Nat.reduceEqDiff, Nat.reduceLeDiff, Nat.reduceAdd, Nat.reduceMul, Nat.reduceSub, Nat.reduceBEq, Nat.reduceGT, Nat.reduceLT, Int.reduceLE, Int.reduceLT, Int.reduceNeg, reduceCtorEq, e0, e1, e7, hw, hmin, c4, Int.toNat_one]
      refine LoopI.by mixed (fun σ H' => ∃ (i : Nat) (v7 : Value), σ 0 = .int .i64 m ∧ σ 1 = .slice (if r2 = 1 then some ⟨rb, ro, none⟩ else some ⟨rb, ro + 1, none⟩) (rs.length - 1) (r2 - 1) ∧ σ 7 = v7 ∧ σ 8 = rd ∧ σ 9 = .int .i64 ((k - i : Nat) : Int) ∧ i ≤ k ∧
        V.Own H' H.size 3 1 v7 ((acc ++ (rdN xs i).1).map (.int .i64)) ∧ Rdr H' H1.size 209 rd xs (rdN xs i).2 ∧ Ext H H') (fun σ _ => (iof (σ 9)).toNat) ?_ ?_
      · exact ⟨0, .slice s1 acc.length s2, by simp only [go_sem, ↓reduceIte, Nat.reduceEqDiff, Nat.reduceLeDiff, Nat.reduceAdd, Nat.reduceMul, Nat.reduceSub, Nat.reduceBEq, Nat.reduceGT, Nat.reduceLT, Int.reduceLE, Int.reduceLT, Int.reduceNeg, reduceCtorEq, e0], by simp only [go_sem, ↓reduceIte, Nat.reduceEqDiff, Nat.reduceLeDiff, Nat.reduceAdd, Nat.reduceMul, Nat.reduceSub, Nat.reduceBEq, Nat.reduceGT, Nat.reduceLT, Int.reduceLE, Int.reduceLT, Int.reduceNeg, reduceCtorEq], by simp only [go_sem, ↓reduceIte, Nat.reduceEqDiff, Nat.reduceLeDiff, Nat.reduceAdd, Nat.reduceMul, Nat.reduceSub, Nat.reduceBEq, Nat.reduceGT, Nat.reduceLT, Int.reduceLE, Int.reduceLT, Int.reduceNeg, reduceCtorEq, e7], by simp only [go_sem, ↓reduceIte, Nat.reduceEqDiff, Nat.reduceLeDiff, Nat.reduceAdd, Nat.reduceMul, Nat.reduceSub, Nat.reduceBEq, Nat.reduceGT, Nat.reduceLT, Int.reduceLE, Int.reduceLT, Int.reduceNeg, reduceCtorEq], by simp only [go_sem, ↓reduceIte, Nat.reduceEqDiff, Nat.reduceLeDiff, Nat.reduceAdd, Nat.reduceMul, Nat.reduceSub, Nat.reduceBEq, Nat.reduceGT, Nat.reduceLT, Int.reduceLE, Int.reduceLT, Int.reduceNeg, reduceCtorEq], by omega, by simpa [rdN] using ho.ext hx2, hrd, hx.trans (hx2.mono hx.size)⟩
      rintro σ H3 ⟨i, w7, f0, f1, f7, f8, f9, hi, ho3, hrd3, hx3⟩
      obtain ⟨w1, w2, rfl⟩ := (show Ints H3 3 .i64 w7 _ from ho3.sl).form
      by_cases hik : i < k
      · have c5 : (0 : Int) < ((k - i : Nat) : Int) := by omega
        simp only [go_sem, ↓reduceIte, Nat.reduceEqDiff, Nat.reduceLeDiff, Nat.reduceAdd, Nat.reduceMul, Nat.reduceSub, Nat.reduceBEq, Nat.reduceGT, Nat.reduceLT, Int.reduceLE, Int.reduceLT, Int.reduceNeg, reduceCtorEq, c39_L0, f0, f1, f7, f8, f9, c5]
        refine FunI.by (F98 H1.size rd xs _ H3 hrd3 hxw (by omega)) ?_
        rintro _ H4 ⟨rfl, hrd4, hsz4, hfr4⟩
        simp only [go_sem, ↓reduceIte, Nat.reduceEqDiff, Nat.reduceLeDiff, Nat.reduceAdd, Nat.reduceMul, Nat.reduceSub, Nat.reduceBEq, Nat.reduceGT, Nat.reduceLT, Int.reduceLE, Int.reduceLT, Int.reduceNeg, reduceCtorEq, f7, f8, f9]
        have hne : ∀ g : Nat, (∃ (c : Array Value) (fr : Nat × Nat), H3[g]? = some (Obj.cells c 3 fr)) → H4[g]? = H3[g]? := by
          rintro g ⟨c, fr, hg⟩
          refine hfr4 g ?_
          rintro rfl
          obtain ⟨b, u, hbe, _, hb3, _⟩ := hrd3
          cases hbe
          rw [hg] at hb3
          cases hb3
        have ho4 : V.Own H4 H.size 3 1 _ _ := ho3.keep fun g hg => hne g (by obtain ⟨_, _, c, hc⟩ := ho3.blk hg; exact ⟨c, _, hc⟩)
        have hx4 : Ext H H4 := by
          refine ⟨by rw [hsz4]; exact hx3.size, fun g hg => ?_⟩
          rw [hfr4 g ?_, hx3.get g hg]
          rintro rfl
          obtain ⟨b, u, hbe, hb1, hb3, _⟩ := hrd3
          cases hbe
          have := hx.size
          omega
        refine RunI.by (append_lit ty22 ty3 rfl (by decide) ho4 (ys := [.int .i64 (rval xs (rdN xs i).2)]) (m := 1) rfl rfl (n := acc.length + i + 1) (by simp [rdN_len]) (by omega) (by omega) hx4.size) ?_
        rintro w5 H5 ⟨ho5, hg5, _⟩
        have hw1 : IntKind.i64.wrap (((k - i : Nat) : Int) - 1) = ((k - (i + 1) : Nat) : Int) := by rw [w64_id (by omega) (by omega)]; omega
        simp only [go_sem, ↓reduceIte, Nat.reduceEqDiff, Nat.reduceLeDiff, Nat.reduceAdd, Nat.reduceMul, Nat.reduceSub, Nat.reduceBEq, Nat.reduceGT, Nat.reduceLT, Int.reduceLE, Int.reduceLT, Int.reduceNeg, reduceCtorEq, f9, hw1]
        refine ⟨Hold.mk ⟨i + 1, w5, by simp only [go_sem, ↓reduceIte, Nat.reduceEqDiff, Nat.reduceLeDiff, Nat.reduceAdd, Nat.reduceMul, Nat.reduceSub, Nat.reduceBEq, Nat.reduceGT, Nat.reduceLT, Int.reduceLE, Int.reduceLT, Int.reduceNeg, reduceCtorEq, f0], by simp only [go_sem, ↓reduceIte, Nat.reduceEqDiff, Nat.reduceLeDiff, Nat.reduceAdd, Nat.reduceMul, Nat.reduceSub, Nat.reduceBEq, Nat.reduceGT, Nat.reduceLT, Int.reduceLE, Int.reduceLT, Int.reduceNeg, reduceCtorEq, f1], by simp only [go_sem, ↓reduceIte, Nat.reduceEqDiff, Nat.reduceLeDiff, Nat.reduceAdd, Nat.reduceMul, Nat.reduceSub, Nat.reduceBEq, Nat.reduceGT, Nat.reduceLT, Int.reduceLE, Int.reduceLT, Int.reduceNeg, reduceCtorEq], by simp only [go_sem, ↓reduceIte, Nat.reduceEqDiff, Nat.reduceLeDiff, Nat.reduceAdd, Nat.reduceMul, Nat.reduceSub, Nat.reduceBEq, Nat.reduceGT, Nat.reduceLT, Int.reduceLE, Int.reduceLT, Int.reduceNeg, reduceCtorEq, f8], by simp only [go_sem, ↓reduceIte, Nat.reduceEqDiff, Nat.reduceLeDiff, Nat.reduceAdd, Nat.reduceMul, Nat.reduceSub, Nat.reduceBEq, Nat.reduceGT, Nat.reduceLT, Int.reduceLE, Int.reduceLT, Int.reduceNeg, reduceCtorEq], by omega, ?_, ?_, hx4.trans (hg5.upto ho4 hx4.size)⟩, by omega⟩
        · simpa [rdN] using ho5
        · refine hrd4.keep fun b hb hcb => hg5.but.get b hb ?_
          intro hbl
          obtain ⟨c, e, fr, hc, hne'⟩ := hcb
          obtain ⟨_, _, c', hc'⟩ := ho4.blk hbl.symm
          rw [hc] at hc'
          cases hc'
          exact hne' rfl
      · have c5 : ¬ (0 : Int) < ((k - i : Nat) : Int) := by omega
        simp only [go_sem, ↓reduceIte, Nat.reduceEqDiff, Nat.reduceLeDiff, Nat.reduceAdd, Nat.reduceMul, Nat.reduceSub, Nat.reduceBEq, Nat.reduceGT, Nat.reduceLT, Int.reduceLE, Int.reduceLT, Int.reduceNeg, reduceCtorEq, c39_L0, f0, f1, f7, f8, f9, c5]
        have hik' : i = k := by omega
        subst hik'
        obtain ⟨st, hst⟩ : ∃ st, st = (rdN xs i).2 := ⟨_, rfl⟩
        rw [← hst] at hrd3
        have hpos : st.1 ≤ xs.length := by obtain ⟨_, _, _, _, _, _, h⟩ := hrd3; exact h
        have hsp := bspec_cons (n := m - acc.length) (xs := xs) (l := rs.drop 1) (by omega)
        rw [← hrs, ← hk, ← hst] at hsp
        refine FunI.by (F99 H1.size rd xs st H3 hrd3) ?_
        rintro _ _ ⟨rfl, rfl⟩
        by_cases hs0 : st.2 = 0
        · simp only [go_sem, ↓reduceIte, Nat.reduceEqDiff, Nat.reduceLeDiff, Nat.reduceAdd, Nat.reduceMul, Nat.reduceSub, Nat.reduceBEq, Nat.reduceGT, Nat.reduceLT, Int.reduceLE, Int.reduceLT, Int.reduceNeg, reduceCtorEq, f8, hs0]
          refine FunI.by (F100 H1.size rd xs st H3 hrd3 (by omega)) ?_
          rintro _ _ ⟨rfl, rfl⟩
          by_cases hp : st.1 = xs.length
          · have c6 : ¬ (0 : Int) < (xs.length : Int) - st.1 := by omega
            simp only [go_sem, ↓reduceIte, Nat.reduceEqDiff, Nat.reduceLeDiff, Nat.reduceAdd, Nat.reduceMul, Nat.reduceSub, Nat.reduceBEq, Nat.reduceGT, Nat.reduceLT, Int.reduceLE, Int.reduceLT, Int.reduceNeg, reduceCtorEq, hs0, c6, f1, f7]
            have hcl : clean xs st = true := by simp [clean, hs0, hp]
            rw [hcl] at hsp
            refine ⟨Hold.mk ⟨acc ++ (rdN xs i).1, _, _, rs.drop 1, by simp only [go_sem, ↓reduceIte, Nat.reduceEqDiff, Nat.reduceLeDiff, Nat.reduceAdd, Nat.reduceMul, Nat.reduceSub, Nat.reduceBEq, Nat.reduceGT, Nat.reduceLT, Int.reduceLE, Int.reduceLT, Int.reduceNeg, reduceCtorEq, f0], by simp only [go_sem, ↓reduceIte, Nat.reduceEqDiff, Nat.reduceLeDiff, Nat.reduceAdd, Nat.reduceMul, Nat.reduceSub, Nat.reduceBEq, Nat.reduceGT, Nat.reduceLT, Int.reduceLE, Int.reduceLT, Int.reduceNeg, reduceCtorEq, f1], by simp only [go_sem, ↓reduceIte, Nat.reduceEqDiff, Nat.reduceLeDiff, Nat.reduceAdd, Nat.reduceMul, Nat.reduceSub, Nat.reduceBEq, Nat.reduceGT, Nat.reduceLT, Int.reduceLE, Int.reduceLT, Int.reduceNeg, reduceCtorEq, f7], ho3, hrl, fun y hy => hin y (List.mem_of_mem_drop hy), ?_, ?_, hx3⟩, ?_⟩
            · simp [rdN_len]; omega
            · rw [hbs, hsp]
              simp only [if_true, List.length_append, rdN_len, Option.map_map]
              rw [show m - (acc.length + i) = m - acc.length - i by omega]
              congr 1
              funext r
              simp
            · rw [e1]
              simp only [slen]
              omega
          · have c6 : (0 : Int) < (xs.length : Int) - st.1 := by omega
            simp only [go_sem, ↓reduceIte, Nat.reduceEqDiff, Nat.reduceLeDiff, Nat.reduceAdd, Nat.reduceMul, Nat.reduceSub, Nat.reduceBEq, Nat.reduceGT, Nat.reduceLT, Int.reduceLE, Int.reduceLT, Int.reduceNeg, reduceCtorEq, hs0, c6]
            have hcl : clean xs st = false := by simp [clean, hs0, hp]
            rw [hcl] at hsp
            rw [hbs, hsp]
            exact ⟨hx3, trivial⟩
        · simp only [go_sem, ↓reduceIte, Nat.reduceEqDiff, Nat.reduceLeDiff, Nat.reduceAdd, Nat.reduceMul, Nat.reduceSub, Nat.reduceBEq, Nat.reduceGT, Nat.reduceLT, Int.reduceLE, Int.reduceLT, Int.reduceNeg, reduceCtorEq, f8, hs0]
          have hcl : clean xs st = false := by simp [clean, hs0]
          rw [hcl] at hsp
          rw [hbs, hsp]
          exact ⟨hx3, trivial⟩
  · have c1 : ¬ (acc.length : Int) < m := by omega
    have hm : m - acc.length = 0 := by omega
    simp only [go_sem, ↓reduceIte, Nat.reduceEqDiff, Nat.reduceLeDiff, Nat.reduceAdd, Nat.reduceMul, Nat.reduceSub, Nat.reduceBEq, Nat.reduceGT, Nat.reduceLT, Int.reduceLE, Int.reduceLT, Int.reduceNeg, reduceCtorEq, c39_L1, e0, e1, e7, c1]
    rw [hbs, hm, bspec_zero]
    exact ⟨hx, _, _, rfl, by simpa using ho, hr, hin⟩
end Go.Proofs.YtgigigchjnnonaaGreatDoor
namespace Go.Proofs.YtgigigchjnnonaaGreatDoor
open Go Go.V

def dspec (n : Nat) (ls : List (List Int)) : Option (List Bool) :=
  if n = 0 then (if ls.length = 0 then some [] else none)
  else if ls.length = 1 ∧ (ls.getD 0 []).length = n ∧ (∀ x ∈ ls.getD 0 [], x ≤ 1) then some ((ls.getD 0 []).map fun x => decide (x = 1)) else none

set_option maxHeartbeats 1600000 in
set_option maxRecDepth 20000 in
theorem F40 (n : Int) (v : Value) (ls : List (List Int)) (H : Heap) (hv : Lists H 53 5 v ls) (hb : ∀ xs ∈ ls, Byt xs ∧ xs.length ≤ 140737488350000) (h0 : 0 ≤ n) (h1 : n ≤ 4294967296) :
    Fun Tryz.prog 40 #[.int .i64 n, v] H (fun r H' => Ext H H' ∧ match dspec n.toNat ls with
      | none => r = .tuple #[.slice none 0 0, .bool false]
      | some ds => ∃ vd, r = .tuple #[vd, .bool true] ∧ V.Own H' H.size 4 1 vd (ds.map .bool)) := by
  obtain ⟨m, rfl⟩ := Int.eq_ofNat_of_zero_le h0
  simp only [Int.toNat_natCast]
  obtain ⟨r1, r2, rfl⟩ := hv.form
  refine fun_of mixed (args := [_, _]) Tryz.func40 Tryz.ntmps40 b40 r40 rfl ?_
  by_cases hm : m = 0
  · have cm : (m : Int) = 0 := by omega
    by_cases hl : ls.length = 0
    · have c1 : (ls.length : Int) = 0 := by omega
      simp only [go_sem, ↓reduceIte, Nat.reduceEqDiff, Nat.reduceLeDiff, Nat.reduceAdd, Nat.reduceMul, Nat.reduceSub, Nat.reduceBEq, Nat.reduceGT, Nat.reduceLT, Int.reduceLE, Int.reduceLT, Int.reduceNeg, reduceCtorEq, c1, cm]
      have : dspec m ls = some [] := by unfold dspec; rw [if_pos hm, if_pos hl]
      rw [this]
      exact ⟨Upto.refl _ _, _, rfl, V.Own.nil⟩
    · have c1 : ¬ (ls.length : Int) = 0 := by omega
      simp only [go_sem, ↓reduceIte, Nat.reduceEqDiff, Nat.reduceLeDiff, Nat.reduceAdd, Nat.reduceMul, Nat.reduceSub, Nat.reduceBEq, Nat.reduceGT, Nat.reduceLT, Int.reduceLE, Int.reduceLT, Int.reduceNeg, reduceCtorEq, c1, cm]
      have : dspec m ls = none := by unfold dspec; rw [if_pos hm, if_neg hl]
      rw [this]
      exact ⟨Upto.refl _ _, by first | rfl | trivial⟩
  · have cm : ¬ (m : Int) = 0 := by omega
    by_cases hl : ls.length = 1
    · have c1 : (ls.length : Int) = 1 := by omega
      obtain ⟨b, o, rfl⟩ := hv.at (i := 0) (by omega)
      obtain ⟨u, hu, hui⟩ := hv.get (i := 0) (by omega)
      obtain ⟨xs, hxs⟩ : ∃ xs, xs = ls.getD 0 [] := ⟨_, rfl⟩
      have hxin : xs ∈ ls := by
        cases ls with
        | nil => simp at hl
        | cons y ys => simp [hxs]
      rw [← hxs] at hui
      obtain ⟨hxw, hxl⟩ := hb _ hxin
      obtain ⟨u1, u2, rfl⟩ := hui.form
      rw [Nat.add_zero] at hu
      by_cases hn : xs.length = m
      · have c2 : (xs.length : Int) = m := by omega
        subst hn
        have hu2 := fun x => hget_ext (H := H.push x) (Ext.push x) hu
        simp only [go_sem, ↓reduceIte, Nat.reduceEqDiff, Nat.reduceLeDiff, Nat.reduceAdd, Nat.reduceMul, Nat.reduceSub, Nat.reduceBEq, Nat.reduceGT, Nat.reduceLT, Int.reduceLE, Int.reduceLT, Int.reduceNeg, reduceCtorEq, cm, c1, hu, hu2, Int.toNat_zero, Nat.add_zero]
        refine ⟨by omega, by omega, by omega, by omega, ?_⟩
        refine LoopI.by mixed (fun σ H' => ∃ j : Nat, σ 6 = .slice (some ⟨H.size, 0, none⟩) xs.length xs.length ∧ σ 29 = .slice u1 xs.length u2 ∧ σ 30 = .int .i64 xs.length ∧ σ 31 = .int .i64 j ∧ j ≤ xs.length ∧ (∀ k, k < j → xs.getD k 0 ≤ 1) ∧
          V.Own H' H.size 4 1 (.slice (some ⟨H.size, 0, none⟩) xs.length xs.length) (((xs.take j).map (fun x => decide (x = 1)) ++ List.replicate (xs.length - j) false).map .bool) ∧ Ext H H') (fun σ _ => xs.length - (iof (σ 31)).toNat) ?_ ?_
        · have hown := V.Own.made (H := H) (B := H.size) (e := 4) (sz := 1) (l := xs.length) (c := xs.length) (z := .bool false) (Nat.le_refl _) (Nat.le_refl _) (by omega)
          rw [Nat.mul_one, zrow_one rfl, List.take_of_length_le (by simp)] at hown
          exact ⟨0, by simp only [go_sem, ↓reduceIte, Nat.reduceEqDiff, Nat.reduceLeDiff, Nat.reduceAdd, Nat.reduceMul, Nat.reduceSub, Nat.reduceBEq, Nat.reduceGT, Nat.reduceLT, Int.reduceLE, Int.reduceLT, Int.reduceNeg, reduceCtorEq], by simp only [go_sem, ↓reduceIte, Nat.reduceEqDiff, Nat.reduceLeDiff, Nat.reduceAdd, Nat.reduceMul, Nat.reduceSub, Nat.reduceBEq, Nat.reduceGT, Nat.reduceLT, Int.reduceLE, Int.reduceLT, Int.reduceNeg, reduceCtorEq], by simp only [go_sem, ↓reduceIte, Nat.reduceEqDiff, Nat.reduceLeDiff, Nat.reduceAdd, Nat.reduceMul, Nat.reduceSub, Nat.reduceBEq, Nat.reduceGT, Nat.reduceLT, Int.reduceLE, Int.reduceLT, Int.reduceNeg, reduceCtorEq], by simp only [go_sem, ↓reduceIte, Nat.reduceEqDiff, Nat.reduceLeDiff, Nat.reduceAdd, Nat.reduceMul, Nat.reduceSub, Nat.reduceBEq, Nat.reduceGT, Nat.reduceLT, Int.reduceLE, Int.reduceLT, Int.reduceNeg, reduceCtorEq]; rfl, by omega, by omega, by simpa using hown, Ext.push _⟩
        rintro σ H3 ⟨j, e6, e29, e30, e31, hj, hle, hob, hx3⟩
        by_cases hjn : j < xs.length
        · have c3 : (j : Int) < xs.length := by omega
          have c0 : (0 : Int) ≤ j := by omega
          obtain ⟨bb, bo, rfl⟩ := hui.at hjn
          have gj := (hui.ext hx3).get hjn
          have hst := hob.store hjn (.bool (decide (xs.getD j 0 = 1)))
          obtain ⟨_, hcan1, ho1, hbut, hlen⟩ := hst
          rw [Nat.zero_add] at hcan1 ho1 hbut
          by_cases hbig : 1 < xs.getD j 0
          · simp only [go_sem, ↓reduceIte, Nat.reduceEqDiff, Nat.reduceLeDiff, Nat.reduceAdd, Nat.reduceMul, Nat.reduceSub, Nat.reduceBEq, Nat.reduceGT, Nat.reduceLT, Int.reduceLE, Int.reduceLT, Int.reduceNeg, reduceCtorEq, c40_L0, e6, e29, e30, e31, c0, c3, gj, hbig]
            have : dspec xs.length ls = none := by
              unfold dspec
              rw [if_neg hm, if_neg]
              rintro ⟨_, _, h⟩
              rw [← hxs] at h
              have := h _ (mem_getD (xs := xs) (i := j) hjn 0)
              omega
            rw [this]
            exact ⟨hx3, by first | rfl | trivial⟩
          · simp only [go_sem, ↓reduceIte, Nat.reduceEqDiff, Nat.reduceLeDiff, Nat.reduceAdd, Nat.reduceMul, Nat.reduceSub, Nat.reduceBEq, Nat.reduceGT, Nat.reduceLT, Int.reduceLE, Int.reduceLT, Int.reduceNeg, reduceCtorEq, c40_L0, e6, e29, e30, e31, c0, c3, gj, hbig, w64_id (n := (j : Int) + 1) (by omega) (by omega)]
            refine ⟨rfl, hcan1, Hold.mk ⟨j + 1, by simp only [go_sem, ↓reduceIte, Nat.reduceEqDiff, Nat.reduceLeDiff, Nat.reduceAdd, Nat.reduceMul, Nat.reduceSub, Nat.reduceBEq, Nat.reduceGT, Nat.reduceLT, Int.reduceLE, Int.reduceLT, Int.reduceNeg, reduceCtorEq, e6], by simp only [go_sem, ↓reduceIte, Nat.reduceEqDiff, Nat.reduceLeDiff, Nat.reduceAdd, Nat.reduceMul, Nat.reduceSub, Nat.reduceBEq, Nat.reduceGT, Nat.reduceLT, Int.reduceLE, Int.reduceLT, Int.reduceNeg, reduceCtorEq, e29], by simp only [go_sem, ↓reduceIte, Nat.reduceEqDiff, Nat.reduceLeDiff, Nat.reduceAdd, Nat.reduceMul, Nat.reduceSub, Nat.reduceBEq, Nat.reduceGT, Nat.reduceLT, Int.reduceLE, Int.reduceLT, Int.reduceNeg, reduceCtorEq, e30], by simp only [go_sem, ↓reduceIte, Nat.reduceEqDiff, Nat.reduceLeDiff, Nat.reduceAdd, Nat.reduceMul, Nat.reduceSub, Nat.reduceBEq, Nat.reduceGT, Nat.reduceLT, Int.reduceLE, Int.reduceLT, Int.reduceNeg, reduceCtorEq]; rfl, by omega, ?_, ?_, hx3.trans (hbut.upto (fun k hk => by cases hk; exact Nat.le_refl _) hx3.size)⟩, by omega⟩
            · intro k hk
              by_cases hkj : k = j
              · subst hkj; omega
              · exact hle k (by omega)
            · rw [take_succ_getD hjn 0]
              rw [show xs.length - j = (xs.length - (j + 1)) + 1 by omega, List.replicate_succ] at ho1
              simpa [List.set_append, show min j xs.length = j by omega] using ho1
        · have c3 : ¬ (j : Int) < xs.length := by omega
          have hjx : j = xs.length := by omega
          simp only [go_sem, ↓reduceIte, Nat.reduceEqDiff, Nat.reduceLeDiff, Nat.reduceAdd, Nat.reduceMul, Nat.reduceSub, Nat.reduceBEq, Nat.reduceGT, Nat.reduceLT, Int.reduceLE, Int.reduceLT, Int.reduceNeg, reduceCtorEq, c40_L0, e6, e29, e30, e31, c3]
          have : dspec xs.length ls = some (xs.map fun x => decide (x = 1)) := by
            unfold dspec
            rw [if_neg hm, ← hxs, if_pos]
            refine ⟨hl, rfl, fun x hx => ?_⟩
            obtain ⟨k, hk, rfl⟩ := List.getElem_of_mem hx
            have := hle k (by omega)
            simpa [List.getD_eq_getElem?_getD, List.getElem?_eq_getElem hk] using this
          rw [this]
          refine ⟨hx3, _, rfl, ?_⟩
          subst hjx
          simpa using hob
      · have c2 : ¬ (xs.length : Int) = m := by omega
        simp only [go_sem, ↓reduceIte, Nat.reduceEqDiff, Nat.reduceLeDiff, Nat.reduceAdd, Nat.reduceMul, Nat.reduceSub, Nat.reduceBEq, Nat.reduceGT, Nat.reduceLT, Int.reduceLE, Int.reduceLT, Int.reduceNeg, reduceCtorEq, cm, c1, hu, c2, Int.toNat_zero, Nat.add_zero]
        have : dspec m ls = none := by
          unfold dspec
          rw [if_neg hm, if_neg]
          rintro ⟨_, h, _⟩
          rw [← hxs] at h
          exact hn h
        rw [this]
        exact ⟨Upto.refl _ _, by first | rfl | trivial⟩
    · have c1 : ¬ (ls.length : Int) = 1 := by omega
      simp only [go_sem, ↓reduceIte, Nat.reduceEqDiff, Nat.reduceLeDiff, Nat.reduceAdd, Nat.reduceMul, Nat.reduceSub, Nat.reduceBEq, Nat.reduceGT, Nat.reduceLT, Int.reduceLE, Int.reduceLT, Int.reduceNeg, reduceCtorEq, cm, c1]
      have : dspec m ls = none := by
        unfold dspec
        rw [if_neg hm, if_neg]
        rintro ⟨h, _⟩
        exact hl h
      rw [this]
      exact ⟨Upto.refl _ _, by first | rfl | trivial⟩
end Go.Proofs.YtgigigchjnnonaaGreatDoor
namespace Go.Proofs.YtgigigchjnnonaaGreatDoor
open Go Go.V

theorem all_range_eq' : ∀ (xs ys : List Int), xs.length = ys.length → ((List.range xs.length).all fun i => xs.getD i 0 == ys.getD i 0) = (xs == ys)
  | [], [], _ => rfl
  | x :: xs, y :: ys, h => by
    have ih := all_range_eq' xs ys (by simpa using h)
    rw [List.length_cons, List.range_succ_eq_map, List.all_cons, List.all_map]
    simp only [Function.comp_def, List.getD_cons_succ, List.getD_cons_zero]
    rw [ih]
    rfl
  | [], _ :: _, h => by simp at h
  | _ :: _, [], h => by simp at h
theorem run_equalIn_i64 {P : Program} (w : World) (d : Nat) (t e : TypeId) (n : Nat) (ht : P.underlying t = some (.array n e)) (he : P.underlying e = some (.int .i64)) (hsz : ∀ w, (sizeOf e).run P w = .ok 1 w)
    (xs ys : List Int) (hx : xs.length = n) (hy : ys.length = n) :
    (Op.equalIn (d + 2) t (.agg (xs.map (Value.int .i64)).toArray) (.agg (ys.map (Value.int .i64)).toArray)).run P w = .ok (xs == ys) w := by
  rw [← all_range_eq' xs ys (hx.trans hy.symm), hx, List.range_eq_range', Op.equalIn]
  simp only [Sem.run_bind, run_underlying ht, Result.andThen_ok, hsz, Std.Legacy.Range.forIn_eq_forIn_range', Std.Legacy.Range.size, Nat.sub_zero, Nat.add_sub_cancel, Nat.div_one]
  have hl : ∀ i ∈ List.range' 0 n 1, i < n := fun i hi => by simpa using (List.mem_range'_1.1 hi).2
  generalize List.range' 0 n 1 = l at hl ⊢
  induction l with
  | nil => simp
  | cons i l ih =>
    have hi : i < n := hl i (by simp)
    have px : (part e (xs.map (Value.int .i64)).toArray (i * 1)).run P w = .ok (Value.int .i64 (xs.getD i 0)) w := by
      simp [part, isAgg, run_underlying he, List.getD, List.getElem?_eq_getElem (show i < xs.length by omega)]
    have py : (part e (ys.map (Value.int .i64)).toArray (i * 1)).run P w = .ok (Value.int .i64 (ys.getD i 0)) w := by
      simp [part, isAgg, run_underlying he, List.getD, List.getElem?_eq_getElem (show i < ys.length by omega)]
    have pe : (Op.equalIn (d + 1) e (Value.int .i64 (xs.getD i 0)) (Value.int .i64 (ys.getD i 0))).run P w = .ok (xs.getD i 0 == ys.getD i 0) w := by
      rw [run_equalIn_int w d e .i64 .i64 _ _ he]
    simp only [List.forIn_cons, Sem.run_bind, px, py, pe, Result.andThen_ok, List.all_cons]
    cases hb : (xs.getD i 0 == ys.getD i 0)
    · simp
    · simpa using ih (fun j hj => hl j (by simp [hj]))
theorem ne_numbers (x y : Operand) (xs ys : List Int) (H : Heap) (hx : xs.length = 4) (hy : ys.length = 4) :
    RunS Tryz.prog (sBinOp .neq 93 x y (.agg (xs.map (Value.int .i64)).toArray) (.agg (ys.map (Value.int .i64)).toArray)) H (fun v H' => v = .bool (decide (xs ≠ ys)) ∧ H = H') := by
  intro w hw
  have hu : Tryz.prog.underlying 93 = some (.array 4 3) := by kernel_rfl
  have he : Tryz.prog.underlying 3 = some (.int .i64) := by kernel_rfl
  have hg : Tryz.prog.eqGuardType Tryz.prog.depth 93 = false := by kernel_rfl
  refine ⟨_, w, ?_, Same.refl _, rfl, hw.symm⟩
  unfold sBinOp
  rw [Sem.run_bind, run_eqGuard_agg _ _ _ _ _ _ _ hg, Result.andThen_ok, run_neq_struct, run_equalIn_i64 w 9998 93 3 4 hu he ((tyOf_ok Tryz.prog).size ty3) xs ys hx hy, Result.andThen_ok]
  congr 2
  by_cases h : xs = ys <;> simp [h]
end Go.Proofs.YtgigigchjnnonaaGreatDoor
namespace Go.Proofs.YtgigigchjnnonaaGreatDoor
open Go Go.V

/-- What Decode answers. -/
def decS (id : Int) (head : List Int) (data : List (List Int)) : Option (Int × List Int × List Bool) :=
  if head.length = 16 ∧ be head 8 ≤ 16777216 ∧ be head 8 ≤ data.length * 200 ∧ be head 12 ≤ 1000 then
    match bspec (be head 8).toNat data with
    | none => none
    | some (xs, l) => match dspec (be head 12).toNat l with
      | none => none
      | some ds => if mayC id (be head 4) xs ds = true ∧ be head 0 = id ∧ be head 8 = xs.length ∧ be head 12 = ds.length then some (be head 4, xs, ds) else none
  else none
theorem be_lt {xs : List Int} (hw : Byt xs) {i : Nat} (h : i + 3 < xs.length) : 0 ≤ be xs i ∧ be xs i < 4294967296 := by
  have h0 := hw _ (mem_getD (xs := xs) (i := i) (by omega) 0)
  have h1 := hw _ (mem_getD (xs := xs) (i := i + 1) (by omega) 0)
  have h2 := hw _ (mem_getD (xs := xs) (i := i + 2) (by omega) 0)
  have h3 := hw _ (mem_getD (xs := xs) (i := i + 3) (by omega) 0)
  unfold be
  omega

def decR (H : Heap) (o : Option (Int × List Int × List Bool)) (r : Value) (H' : Heap) : Prop := Ext H H' ∧ match o with
  | none => r = .tuple #[.agg #[.int .i64 0, .slice none 0 0, .slice none 0 0], .int .i64 90]
  | some (p, xs, ds) => ∃ a b, r = .tuple #[.agg #[.int .i64 p, a, b], .int .i64 0] ∧ V.Own H' H.size 3 1 a (xs.map (.int .i64)) ∧ V.Own H' H.size 4 1 b (ds.map .bool)

set_option maxHeartbeats 1600000 in
set_option maxRecDepth 20000 in
theorem F17 (id : Int) (vh vd : Value) (head : List Int) (data : List (List Int)) (H : Heap) (hh : Ints H 5 .u8 vh head) (hw : Byt head) (hd : Lists H 53 5 vd data) (hb : ∀ xs ∈ data, Byt xs ∧ xs.length ≤ 140737488350000) (hl : data.length ≤ 1000000000) :
    Fun Tryz.prog 17 #[.int .i64 id, vh, vd] H (decR H (decS id head data)) := by
  obtain ⟨d1, d2, rfl⟩ := hd.form
  refine fun_of mixed (args := [_, _, _]) Tryz.func17 Tryz.ntmps17 b17 r17 rfl ?_
  have bad : ∀ {H' : Heap}, (∃ c, H'[H.size]? = some (.cells c 28) ∧ c.size = 3) → Ext H H' → decS id head data = none →
      hcan H' H.size 0 3 ∧ loadV (tyOf Tryz.prog) 28 (.pointer (some ⟨H.size, 0, none⟩)) (hput H' H.size 0 [.int .i64 0, .slice none 0 0, .slice none 0 0]) fun v =>
        decR H (decS id head data) (.tuple #[v, .int .i64 90]) (hput H' H.size 0 [.int .i64 0, .slice none 0 0, .slice none 0 0]) := by
    rintro H' ⟨c, hc, hs⟩ hx hn
    refine ⟨hcan_of hc (by omega), ?_⟩
    rw [hn]
    simp only [loadV, ty28]
    exact ⟨_, hgets_put hc (by simp [hs]) rfl, hx.hput (Nat.le_refl _), rfl⟩
  simp only [go_sem, ↓reduceIte, Nat.reduceEqDiff, Nat.reduceLeDiff, Nat.reduceAdd, Nat.reduceMul, Nat.reduceSub, Nat.reduceBEq, Nat.reduceGT, Nat.reduceLT, Int.reduceLE, Int.reduceLT, Int.reduceNeg, reduceCtorEq]
  refine FunI.by (F38 vh head _ (hh.ext (Ext.push _)) hw) ?_
  rintro _ H1 ⟨hx1, rfl⟩
  have r1 : ∃ c, H1[H.size]? = some (.cells c 28) ∧ c.size = 3 := ⟨_, (hx1.get _ (by simp)).trans push_new, rfl⟩
  have hxa : Ext H H1 := (Ext.push _).trans (hx1.mono (by simp))
  have hs1 : H.size < H1.size := by have := hx1.size; simp at this; omega
  have r1p : ∀ x : Obj, ∃ c, (H1.push x)[H.size]? = some (.cells c 28) ∧ c.size = 3 := fun x => by obtain ⟨c, h1, h2⟩ := r1; exact ⟨c, (push_old hs1).trans h1, h2⟩
  by_cases h16 : head.length = 16
  · have hn4 : nums head 4 = #[.int .i64 (be head 0), .int .i64 (be head 4), .int .i64 (be head 8), .int .i64 (be head 12)] := rfl
    simp only [h16, if_true, hn4]
    have t2 : Int.toNat 2 = 2 := rfl
    have t3 : Int.toNat 3 = 3 := rfl
    have b0 := be_lt hw (i := 0) (by omega)
    have b1 := be_lt hw (i := 4) (by omega)
    have b2 := be_lt hw (i := 8) (by omega)
    have b3 := be_lt hw (i := 12) (by omega)
    have w1 : IntKind.i64.wrap ((data.length : Int) * 200) = (data.length : Int) * 200 := w64_id (by omega) (by omega)
    by_cases c1 : 16777216 < be head 8
    · simp only [go_sem, ↓reduceIte, Nat.reduceEqDiff, Nat.reduceLeDiff, Nat.reduceAdd, Nat.reduceMul, Nat.reduceSub, Nat.reduceBEq, Nat.reduceGT, Nat.reduceLT, Int.reduceLE, Int.reduceLT, Int.reduceNeg, reduceCtorEq, hput_push, hcan_push, List.all_cons, List.all_nil, Value.oneCell', t2, t3, Int.toNat_one, c1]
      exact ⟨by decide, bad (r1p _) (hxa.trans ((Ext.push _).mono hxa.size)) (by unfold decS; rw [if_neg (by omega)])⟩
    by_cases c2 : (data.length : Int) * 200 < be head 8
    · simp only [go_sem, ↓reduceIte, Nat.reduceEqDiff, Nat.reduceLeDiff, Nat.reduceAdd, Nat.reduceMul, Nat.reduceSub, Nat.reduceBEq, Nat.reduceGT, Nat.reduceLT, Int.reduceLE, Int.reduceLT, Int.reduceNeg, reduceCtorEq, hput_push, hcan_push, List.all_cons, List.all_nil, Value.oneCell', t2, t3, Int.toNat_one, c1, c2, w1]
      exact ⟨by decide, by decide, bad (r1p _) (hxa.trans ((Ext.push _).mono hxa.size)) (by unfold decS; rw [if_neg (by omega)])⟩
    by_cases c3 : 1000 < be head 12
    · simp only [go_sem, ↓reduceIte, Nat.reduceEqDiff, Nat.reduceLeDiff, Nat.reduceAdd, Nat.reduceMul, Nat.reduceSub, Nat.reduceBEq, Nat.reduceGT, Nat.reduceLT, Int.reduceLE, Int.reduceLT, Int.reduceNeg, reduceCtorEq, hput_push, hcan_push, List.all_cons, List.all_nil, Value.oneCell', t2, t3, Int.toNat_one, c1, c2, c3, w1]
      exact ⟨by decide, by decide, by decide, bad (r1p _) (hxa.trans ((Ext.push _).mono hxa.size)) (by unfold decS; rw [if_neg (by omega)])⟩
    simp only [go_sem, ↓reduceIte, Nat.reduceEqDiff, Nat.reduceLeDiff, Nat.reduceAdd, Nat.reduceMul, Nat.reduceSub, Nat.reduceBEq, Nat.reduceGT, Nat.reduceLT, Int.reduceLE, Int.reduceLT, Int.reduceNeg, reduceCtorEq, hput_push, hcan_push, List.all_cons, List.all_nil, Value.oneCell', t2, t3, Int.toNat_one, c1, c2, c3, w1]
    refine ⟨by decide, by decide, by decide, by decide, by decide, ?_⟩
    have hsp : decS id head data = match bspec (be head 8).toNat data with
      | none => none
      | some (xs, l) => match dspec (be head 12).toNat l with
        | none => none
        | some ds => if mayC id (be head 4) xs ds = true ∧ be head 0 = id ∧ be head 8 = xs.length ∧ be head 12 = ds.length then some (be head 4, xs, ds) else none := by
      unfold decS
      rw [if_pos ⟨h16, by omega, by omega, by omega⟩]
    have hx2 : Ext H1 ((H1.push (Obj.cells #[.int .i64 (be head 0), .int .i64 (be head 4), .int .i64 (be head 8), .int .i64 (be head 12)] 93)).push (Obj.cells #[.int .i64 (be head 4), .slice none 0 0, .slice none 0 0] 28)) := (Ext.push _).trans ((Ext.push _).mono (by simp))
    refine FunI.by (F39 (be head 8) _ data H _ hd (hxa.trans (hx2.mono hxa.size)) hb b2.1 (by omega)) ?_
    rintro r H2 ⟨hx3, hr⟩
    have hx4 : Ext H1 H2 := hx2.trans (hx3.mono hx2.size)
    have kN : H2[H1.size]? = some (Obj.cells #[.int .i64 (be head 0), .int .i64 (be head 4), .int .i64 (be head 8), .int .i64 (be head 12)] 93) := by
      rw [hx3.get _ (by simp; omega), push_old (by simp)]
      exact push_new
    have kC : H2[H1.size + 1]? = some (Obj.cells #[.int .i64 (be head 4), .slice none 0 0, .slice none 0 0] 28) := by
      rw [hx3.get _ (by simp)]
      rw [show H1.size + 1 = (H1.push (Obj.cells #[.int .i64 (be head 0), .int .i64 (be head 4), .int .i64 (be head 8), .int .i64 (be head 12)] 93)).size by simp]
      exact push_new
    have hsz : (H1.push (Obj.cells #[Value.int .i64 (be head 0), .int .i64 (be head 4), .int .i64 (be head 8), .int .i64 (be head 12)] 93)).size = H1.size + 1 := by simp
    have r2 : ∀ vs, ∃ c, (hput H2 (H1.size + 1) 1 vs)[H.size]? = some (.cells c 28) ∧ c.size = 3 := fun vs => by
      obtain ⟨c, h1, h2⟩ := r1
      exact ⟨c, by rw [hput_other _ _ _ _ (by omega), hx4.get _ hs1]; exact h1, h2⟩
    have hxb : Ext H H2 := hxa.trans (hx4.mono hxa.size)
    cases hbs : bspec (be head 8).toNat data with
    | none =>
      rw [hbs] at hr hsp
      subst hr
      simp only [go_sem, ↓reduceIte, Nat.reduceEqDiff, Nat.reduceLeDiff, Nat.reduceAdd, Nat.reduceMul, Nat.reduceSub, Nat.reduceBEq, Nat.reduceGT, Nat.reduceLT, Int.reduceLE, Int.reduceLT, Int.reduceNeg, reduceCtorEq, hsz]
      exact ⟨rfl, hcan_of kC (by simp), rfl, bad (r2 _) (hxb.hput (by omega)) hsp⟩
    | some q =>
      obtain ⟨xs, l⟩ := q
      rw [hbs] at hr hsp
      obtain ⟨va, vl, rfl, hova, hlvl, hlin⟩ := hr
      obtain ⟨v1, v2, rfl⟩ := (show Ints H2 3 .i64 va xs from hova.sl).form
      have k3 : hget (hput H2 (H1.size + 1) 1 [.slice v1 xs.length v2]) H1.size 3 = some (.int .i64 (be head 12)) := by
        unfold hget
        rw [hput_other _ _ _ _ (by omega), kN]
        rfl
      simp only [go_sem, ↓reduceIte, Nat.reduceEqDiff, Nat.reduceLeDiff, Nat.reduceAdd, Nat.reduceMul, Nat.reduceSub, Nat.reduceBEq, Nat.reduceGT, Nat.reduceLT, Int.reduceLE, Int.reduceLT, Int.reduceNeg, reduceCtorEq, hsz, t3, k3]
      refine ⟨rfl, hcan_of kC (by simp), by decide, ?_⟩
      have kC3 : (hput H2 (H1.size + 1) 1 [.slice v1 xs.length v2])[H1.size + 1]? = some (Obj.cells #[.int .i64 (be head 4), .slice v1 xs.length v2, .slice none 0 0] 28) := hput_same kC
      have kN3 : (hput H2 (H1.size + 1) 1 [.slice v1 xs.length v2])[H1.size]? = _ := (hput_other _ _ _ _ (by omega)).trans kN
      have hl3 : Lists (hput H2 (H1.size + 1) 1 [.slice v1 xs.length v2]) 53 5 vl l := hlvl.ext (hxb.hput (by omega))
      have hi3 : V.Own (hput H2 (H1.size + 1) 1 [.slice v1 xs.length v2]) _ 3 1 (.slice v1 xs.length v2) (xs.map (.int .i64)) := hova.keepT fun b c fr hb => hput_other _ _ _ _ (by
        rintro rfl
        rw [kC] at hb
        cases hb)
      have hxc : Ext H (hput H2 (H1.size + 1) 1 [.slice v1 xs.length v2]) := hxb.hput (by omega)
      have r3 := r2 [.slice v1 xs.length v2]
      generalize hput H2 (H1.size + 1) 1 [.slice v1 xs.length v2] = H3 at *
      refine FunI.by (F40 (be head 12) vl l H3 hl3 (fun y hy => hb y (hlin y hy)) b3.1 (by omega)) ?_
      rintro r H4 ⟨hx5, hr⟩
      have hx6 : Ext H H4 := hxc.trans (hx5.mono hxc.size)
      have kC4 := (hx5.get (H1.size + 1) (Array.getElem?_eq_some_iff.1 kC3).1).trans kC3
      have kN4 := (hx5.get H1.size (Array.getElem?_eq_some_iff.1 kN3).1).trans kN3
      have r4 : ∀ vs, ∃ c, (hput H4 (H1.size + 1) 2 vs)[H.size]? = some (.cells c 28) ∧ c.size = 3 := fun vs => by
        obtain ⟨c, h1, h2⟩ := r3
        exact ⟨c, by rw [hput_other _ _ _ _ (by omega), hx5.get _ (Array.getElem?_eq_some_iff.1 h1).1]; exact h1, h2⟩
      cases hds : dspec (be head 12).toNat l with
      | none =>
        rw [hds] at hr
        simp only [hds] at hsp
        subst hr
        simp only [go_sem, ↓reduceIte, Nat.reduceEqDiff, Nat.reduceLeDiff, Nat.reduceAdd, Nat.reduceMul, Nat.reduceSub, Nat.reduceBEq, Nat.reduceGT, Nat.reduceLT, Int.reduceLE, Int.reduceLT, Int.reduceNeg, reduceCtorEq, hsz]
        exact ⟨rfl, hcan_of kC4 (by simp), rfl, bad (r4 _) (hx6.hput (by omega)) hsp⟩
      | some ds =>
        rw [hds] at hr
        simp only [hds] at hsp
        obtain ⟨vb, rfl, hob⟩ := hr
        obtain ⟨y1, y2, rfl⟩ := (show Bls H4 4 vb ds from hob.sl).form
        have kC5 : (hput H4 (H1.size + 1) 2 [.slice y1 ds.length y2])[H1.size + 1]? = some (Obj.cells #[.int .i64 (be head 4), .slice v1 xs.length v2, .slice y1 ds.length y2] 28) := hput_same kC4
        have kN5 : (hput H4 (H1.size + 1) 2 [.slice y1 ds.length y2])[H1.size]? = _ := (hput_other _ _ _ _ (by omega)).trans kN4
        have ho5 : V.Own (hput H4 (H1.size + 1) 2 [.slice y1 ds.length y2]) _ 3 1 (.slice v1 xs.length v2) (xs.map (.int .i64)) := (hi3.ext hx5).keepT fun b c fr hb => hput_other _ _ _ _ (by
          rintro rfl
          rw [kC4] at hb
          cases hb)
        have hob5 : V.Own (hput H4 (H1.size + 1) 2 [.slice y1 ds.length y2]) _ 4 1 (.slice y1 ds.length y2) (ds.map .bool) := hob.keepT fun b c fr hb => hput_other _ _ _ _ (by
          rintro rfl
          rw [kC4] at hb
          cases hb)
        have hi5 : Ints (hput H4 (H1.size + 1) 2 [.slice y1 ds.length y2]) 3 .i64 (.slice v1 xs.length v2) xs := ho5.sl
        have hb5 : Bls (hput H4 (H1.size + 1) 2 [.slice y1 ds.length y2]) 4 (.slice y1 ds.length y2) ds := hob5.sl
        have r5 := r4 [.slice y1 ds.length y2]
        have hx7 : Ext H (hput H4 (H1.size + 1) 2 [.slice y1 ds.length y2]) := hx6.hput (by omega)
        have c0 : hget (hput H4 (H1.size + 1) 2 [.slice y1 ds.length y2]) (H1.size + 1) 0 = some (.int .i64 (be head 4)) := by unfold hget; rw [kC5]; rfl
        have c1' : hget (hput H4 (H1.size + 1) 2 [.slice y1 ds.length y2]) (H1.size + 1) 1 = some (.slice v1 xs.length v2) := by unfold hget; rw [kC5]; rfl
        have c2' : hget (hput H4 (H1.size + 1) 2 [.slice y1 ds.length y2]) (H1.size + 1) 2 = some (.slice y1 ds.length y2) := by unfold hget; rw [kC5]; rfl
        simp only [go_sem, ↓reduceIte, Nat.reduceEqDiff, Nat.reduceLeDiff, Nat.reduceAdd, Nat.reduceMul, Nat.reduceSub, Nat.reduceBEq, Nat.reduceGT, Nat.reduceLT, Int.reduceLE, Int.reduceLT, Int.reduceNeg, reduceCtorEq, hsz, c0, c1', c2']
        refine ⟨rfl, hcan_of kC4 (by simp), ?_⟩
        refine FunI.by (F31 _ id (be head 4) xs ds _ ⟨_, _, rfl, hi5, hb5⟩) ?_
        rintro _ H6 ⟨rfl, hx8⟩
        have kC6 := (hx8.get (H1.size + 1) (Array.getElem?_eq_some_iff.1 kC5).1).trans kC5
        have kN6 := (hx8.get H1.size (Array.getElem?_eq_some_iff.1 kN5).1).trans kN5
        have r6 : ∃ c, H6[H.size]? = some (.cells c 28) ∧ c.size = 3 := by
          obtain ⟨c, h1, h2⟩ := r5
          exact ⟨c, by rw [hx8.get _ (Array.getElem?_eq_some_iff.1 h1).1]; exact h1, h2⟩
        have hx9 : Ext H H6 := hx7.trans (hx8.mono hx7.size)
        cases hm : mayC id (be head 4) xs ds with
        | false =>
          simp only [go_sem, ↓reduceIte, Nat.reduceEqDiff, Nat.reduceLeDiff, Nat.reduceAdd, Nat.reduceMul, Nat.reduceSub, Nat.reduceBEq, Nat.reduceGT, Nat.reduceLT, Int.reduceLE, Int.reduceLT, Int.reduceNeg, reduceCtorEq, hsz]
          exact ⟨rfl, bad r6 hx9 (by rw [hsp, if_neg]; rintro ⟨h, _⟩; rw [hm] at h; cases h)⟩
        | true =>
          have d0 : hget H6 (H1.size + 1) 0 = some (.int .i64 (be head 4)) := by unfold hget; rw [kC6]; rfl
          have d1' : hget H6 (H1.size + 1) 1 = some (.slice v1 xs.length v2) := by unfold hget; rw [kC6]; rfl
          have d2' : hget H6 (H1.size + 1) 2 = some (.slice y1 ds.length y2) := by unfold hget; rw [kC6]; rfl
          have n0 : hget H6 H1.size 0 = some (.int .i64 (be head 0)) := by unfold hget; rw [kN6]; rfl
          have n1 : hget H6 H1.size 1 = some (.int .i64 (be head 4)) := by unfold hget; rw [kN6]; rfl
          have n2 : hget H6 H1.size 2 = some (.int .i64 (be head 8)) := by unfold hget; rw [kN6]; rfl
          have n3 : hget H6 H1.size 3 = some (.int .i64 (be head 12)) := by unfold hget; rw [kN6]; rfl
          simp only [go_sem, ↓reduceIte, Nat.reduceEqDiff, Nat.reduceLeDiff, Nat.reduceAdd, Nat.reduceMul, Nat.reduceSub, Nat.reduceBEq, Nat.reduceGT, Nat.reduceLT, Int.reduceLE, Int.reduceLT, Int.reduceNeg, reduceCtorEq, hsz, d0, d1', d2', n0, n1, n2, n3]
          refine RunI.by (ne_numbers (.tmp 71) (.tmp 81) [be head 0, be head 4, be head 8, be head 12] [id, be head 4, (xs.length : Int), (ds.length : Int)] H6 rfl rfl) ?_
          rintro _ _ ⟨rfl, rfl⟩
          by_cases he : be head 0 = id ∧ be head 8 = xs.length ∧ be head 12 = ds.length
          · have hq : ([be head 0, be head 4, be head 8, be head 12] : List Int) = [id, be head 4, (xs.length : Int), (ds.length : Int)] := by
              rw [he.1, he.2.1, he.2.2]
            simp only [go_sem, ↓reduceIte, Nat.reduceEqDiff, Nat.reduceLeDiff, Nat.reduceAdd, Nat.reduceMul, Nat.reduceSub, Nat.reduceBEq, Nat.reduceGT, Nat.reduceLT, Int.reduceLE, Int.reduceLT, Int.reduceNeg, reduceCtorEq, hq, hsz, ne_eq, not_true_eq_false, decide_false, d0, d1', d2', Option.bind_some]
            obtain ⟨c6, hc6, hs6⟩ := r6
            refine ⟨rfl, hcan_of hc6 (by omega), ?_⟩
            simp only [loadV, ty28]
            refine ⟨_, hgets_put hc6 (by simp [hs6]) rfl, hx9.hput (Nat.le_refl _), ?_⟩
            rw [hsp, if_pos ⟨hm, he⟩]
            refine ⟨_, _, rfl, ((ho5.ext hx8).keepT fun b c fr hb => hput_other _ _ _ _ ?_).mono ?_, ((hob5.ext hx8).keepT fun b c fr hb => hput_other _ _ _ _ ?_).mono ?_⟩
            · rintro rfl
              rw [hc6] at hb
              cases hb
            · simp; omega
            · rintro rfl
              rw [hc6] at hb
              cases hb
            · have := hxc.size
              omega
          · have hq : ([be head 0, be head 4, be head 8, be head 12] : List Int) ≠ [id, be head 4, (xs.length : Int), (ds.length : Int)] := by
              intro h
              simp only [List.cons.injEq, and_true] at h
              exact he ⟨h.1, h.2.2.1, h.2.2.2⟩
            simp only [go_sem, ↓reduceIte, Nat.reduceEqDiff, Nat.reduceLeDiff, Nat.reduceAdd, Nat.reduceMul, Nat.reduceSub, Nat.reduceBEq, Nat.reduceGT, Nat.reduceLT, Int.reduceLE, Int.reduceLT, Int.reduceNeg, reduceCtorEq, hq, hsz, ne_eq, not_false_eq_true, decide_true]
            exact ⟨rfl, bad r6 hx9 (by rw [hsp, if_neg]; rintro ⟨_, h⟩; exact he h)⟩
  · have hn0 : nums head 0 = #[.int .i64 0, .int .i64 0, .int .i64 0, .int .i64 0] := rfl
    simp only [h16, if_false, hn0]
    simp only [go_sem, ↓reduceIte, Nat.reduceEqDiff, Nat.reduceLeDiff, Nat.reduceAdd, Nat.reduceMul, Nat.reduceSub, Nat.reduceBEq, Nat.reduceGT, Nat.reduceLT, Int.reduceLE, Int.reduceLT, Int.reduceNeg, reduceCtorEq, hput_push, hcan_push, List.all_cons, List.all_nil, Value.oneCell']
    exact bad (r1p _) (hxa.trans ((Ext.push _).mono hxa.size)) (by unfold decS; rw [if_neg (by omega)])
end Go.Proofs.YtgigigchjnnonaaGreatDoor
namespace Go.Proofs
open Go.Shelf
open Go.Lib in
open Go.Lib in
open Go.Lib in
open Go.Lib in
open Go.RowKit Go.Sort Go.Lib in
open Go.RowKit Go.Sort Go.Lib in
open Go.RowKit Go.Sort Go.Lib in
open Go.RowKit Go.Sort Go.Lib in
open Go.RowKit Go.Sort Go.Lib in
def Tryz.laysM171_ren : Go.Shelf.Ren := ⟨fun | 171 => 84 | 243 => 200 | 246 => 271 | 283 => 300 | 284 => 301 | 285 => 302 | 286 => 303 | 129 => 290 | 317 => 319 | 318 => 320 | 319 => 321 | 320 => 322 | 337 => 327 | 338 => 328 | n => n, fun | 3 => 3 | 9 => 9 | 2 => 2 | 4 => 4 | 171 => 344 | 0 => 0 | 53 => 330 | 37 => 53 | 5 => 5 | 173 => 346 | 212 => 371 | 51 => 146 | 20 => 20 | 213 => 372 | 46 => 139 | 232 => 379 | 233 => 380 | n => n, fun | 17 => 1 | 18 => 2 | 19 => 3 | n => n⟩
theorem Tryz.laysM171 : Go.Proofs.LaysM.n171 Tryz.prog Tryz.laysM171_ren := {
  mixed := by kernel_rfl
  f129 := Tryz.func290.trans (congrArg some (by kernel_rfl))
  f171 := Tryz.func84.trans (congrArg some (by kernel_rfl))
  f243 := Tryz.func200.trans (congrArg some (by kernel_rfl))
  f246 := Tryz.func271.trans (congrArg some (by kernel_rfl))
  f283 := Tryz.func300.trans (congrArg some (by kernel_rfl))
  f284 := Tryz.func301.trans (congrArg some (by kernel_rfl))
  f285 := Tryz.func302.trans (congrArg some (by kernel_rfl))
  f286 := Tryz.func303.trans (congrArg some (by kernel_rfl))
  f317 := Tryz.func319.trans (congrArg some (by kernel_rfl))
  f318 := Tryz.func320.trans (congrArg some (by kernel_rfl))
  f319 := Tryz.func321.trans (congrArg some (by kernel_rfl))
  f320 := Tryz.func322.trans (congrArg some (by kernel_rfl))
  f337 := Tryz.func327.trans (congrArg some (by kernel_rfl))
  f338 := Tryz.func328.trans (congrArg some (by kernel_rfl))
  t0 := Tryz.underlying0
  a0 := Tryz.isAgg0
  z0 := Tryz.sizeOf0
  v0 := Tryz.zeroValue0
  t2 := Tryz.underlying2
  a2 := Tryz.isAgg2
  z2 := Tryz.sizeOf2
  v2 := Tryz.zeroValue2
  t3 := Tryz.underlying3
  a3 := Tryz.isAgg3
  z3 := Tryz.sizeOf3
  v3 := Tryz.zeroValue3
  t4 := Tryz.underlying4
  a4 := Tryz.isAgg4
  z4 := Tryz.sizeOf4
  v4 := Tryz.zeroValue4
  t5 := Tryz.underlying5
  a5 := Tryz.isAgg5
  z5 := Tryz.sizeOf5
  v5 := Tryz.zeroValue5
  t9 := Tryz.underlying9
  a9 := Tryz.isAgg9
  z9 := Tryz.sizeOf9
  v9 := Tryz.zeroValue9
  t20 := Tryz.underlying20
  a20 := Tryz.isAgg20
  z20 := Tryz.sizeOf20
  v20 := Tryz.zeroValue20
  t37 := Tryz.underlying53
  a37 := Tryz.isAgg53
  z37 := Tryz.sizeOf53
  v37 := Tryz.zeroValue53
  t46 := Tryz.underlying139
  a46 := Tryz.isAgg139
  z46 := Tryz.sizeOf139
  v46 := Tryz.zeroValue139
  t51 := Tryz.underlying146
  a51 := Tryz.isAgg146
  z51 := Tryz.sizeOf146
  v51 := Tryz.zeroValue146
  t53 := Tryz.underlying330
  a53 := Tryz.isAgg330
  z53 := Tryz.sizeOf330
  v53 := Tryz.zeroValue330
  t171 := Tryz.underlying344
  a171 := Tryz.isAgg344
  z171 := Tryz.sizeOf344
  v171 := Tryz.zeroValue344
  t173 := Tryz.underlying346
  a173 := Tryz.isAgg346
  z173 := Tryz.sizeOf346
  v173 := Tryz.zeroValue346
  t212 := Tryz.underlying371
  a212 := Tryz.isAgg371
  z212 := Tryz.sizeOf371
  v212 := Tryz.zeroValue371
  t213 := Tryz.underlying372
  a213 := Tryz.isAgg372
  z213 := Tryz.sizeOf372
  t232 := Tryz.underlying379
  a232 := Tryz.isAgg379
  z232 := Tryz.sizeOf379
  v232 := Tryz.zeroValue379
  t233 := Tryz.underlying380
  a233 := Tryz.isAgg380
  z233 := Tryz.sizeOf380
  v233 := Tryz.zeroValue380
  g17 := by kernel_rfl
  g18 := by kernel_rfl
  g19 := by kernel_rfl
  i0 := by kernel_rfl
  i2 := by kernel_rfl
  i3 := by kernel_rfl
  i4 := by kernel_rfl
  i5 := by kernel_rfl
  i9 := by kernel_rfl
  i20 := by kernel_rfl
  i37 := by kernel_rfl
  i46 := by kernel_rfl
  i51 := by kernel_rfl
  i53 := by kernel_rfl
  i171 := by kernel_rfl
  i173 := by kernel_rfl
  i212 := by kernel_rfl
  i232 := by kernel_rfl
  i233 := by kernel_rfl
  m17 := by kernel_rfl
  m18 := by kernel_rfl
  m19 := by kernel_rfl }
open Go.RowKit Go.Sort Go.Lib in
/-- strconv.Itoa: "Itoa is equivalent to FormatInt(int64(i), 10).": i's DECIMAL NUMERAL ('Lib.itoa': a '-' where i is negative, then the digits), FOR EVERY int. The world behind the call: the world before it, new blocks behind the heap (the library's 'var a [24]byte'), draws. (LAID: no walk: one application.) -/
theorem Tryz.strconv_Itoa (n : Int) (h0 : -9223372036854775808 ≤ n) (h1 : n ≤ 9223372036854775807) (w : World) (htab : Lib.TabIs Tryz.prog w "internal/strconv.uint64pow10" .u64 Lib.pow10Tab) :
    Calls Tryz.prog 84 #[.int .i64 n] w fun e w' => e = .returned (.string ⟨(Lib.itoa n).toArray⟩) ∧ ∃ k os, w' = grow (w.drewN k) os := Any.strconv_Itoa Tryz.laysM171 n h0 h1 w htab
open Go.RowKit Go.Sort Go.Lib in
def Tryz.laysSlM6_f173_ren : Go.Shelf.Ren := ⟨fun | 6 => 173 | 8 => 260 | 9 => 259 | 19 => 289 | 20 => 290 | 21 => 280 | 22 => 281 | 23 => 282 | 24 => 283 | 25 => 284 | 26 => 285 | 27 => 286 | 28 => 287 | 29 => 288 | 36 => 307 | 31 => 308 | 32 => 309 | 37 => 310 | 38 => 311 | 39 => 312 | 41 => 324 | n => n, fun | 27 => 110 | 29 => 9 | 3 => 3 | 32 => 139 | 26 => 110 | 0 => 0 | 44 => 146 | 46 => 330 | 4 => 4 | 36 => 322 | 35 => 321 | 41 => 161 | 5 => 5 | 9 => 9 | 53 => 355 | 57 => 359 | 63 => 374 | 64 => 199 | n => n, fun | n => n⟩
theorem Tryz.laysSlM6_f173 : Go.Proofs.SlLaysM.n6 Tryz.prog Tryz.laysSlM6_f173_ren := {
  mixed := by kernel_rfl
  f6 := ⟨Tryz.f173.name, by decide, Tryz.func173.trans (congrArg some (by kernel_rfl))⟩
  f8 := Tryz.func260.trans (congrArg some (by kernel_rfl))
  f9 := ⟨Tryz.f259.name, by decide, Tryz.func259.trans (congrArg some (by kernel_rfl))⟩
  f19 := Tryz.func289.trans (congrArg some (by kernel_rfl))
  f20 := Tryz.func290.trans (congrArg some (by kernel_rfl))
  f21 := ⟨Tryz.f280.name, by decide, Tryz.func280.trans (congrArg some (by kernel_rfl))⟩
  f22 := ⟨Tryz.f281.name, by decide, Tryz.func281.trans (congrArg some (by kernel_rfl))⟩
  f23 := ⟨Tryz.f282.name, by decide, Tryz.func282.trans (congrArg some (by kernel_rfl))⟩
  f24 := ⟨Tryz.f283.name, by decide, Tryz.func283.trans (congrArg some (by kernel_rfl))⟩
  f25 := ⟨Tryz.f284.name, by decide, Tryz.func284.trans (congrArg some (by kernel_rfl))⟩
  f26 := ⟨Tryz.f285.name, by decide, Tryz.func285.trans (congrArg some (by kernel_rfl))⟩
  f27 := ⟨Tryz.f286.name, by decide, Tryz.func286.trans (congrArg some (by kernel_rfl))⟩
  f28 := ⟨Tryz.f287.name, by decide, Tryz.func287.trans (congrArg some (by kernel_rfl))⟩
  f29 := ⟨Tryz.f288.name, by decide, Tryz.func288.trans (congrArg some (by kernel_rfl))⟩
  f31 := Tryz.func308.trans (congrArg some (by kernel_rfl))
  f32 := Tryz.func309.trans (congrArg some (by kernel_rfl))
  f36 := ⟨Tryz.f307.name, by decide, Tryz.func307.trans (congrArg some (by kernel_rfl))⟩
  f37 := ⟨Tryz.f310.name, by decide, Tryz.func310.trans (congrArg some (by kernel_rfl))⟩
  f38 := ⟨Tryz.f311.name, by decide, Tryz.func311.trans (congrArg some (by kernel_rfl))⟩
  f39 := ⟨Tryz.f312.name, by decide, Tryz.func312.trans (congrArg some (by kernel_rfl))⟩
  f41 := ⟨Tryz.f324.name, by decide, Tryz.func324.trans (congrArg some (by kernel_rfl))⟩
  t0 := Tryz.underlying0
  a0 := Tryz.isAgg0
  z0 := Tryz.sizeOf0
  v0 := Tryz.zeroValue0
  t3 := Tryz.underlying3
  a3 := Tryz.isAgg3
  z3 := Tryz.sizeOf3
  v3 := Tryz.zeroValue3
  t4 := Tryz.underlying4
  a4 := Tryz.isAgg4
  z4 := Tryz.sizeOf4
  v4 := Tryz.zeroValue4
  t5 := Tryz.underlying5
  a5 := Tryz.isAgg5
  z5 := Tryz.sizeOf5
  v5 := Tryz.zeroValue5
  t9 := Tryz.underlying9
  a9 := Tryz.isAgg9
  z9 := Tryz.sizeOf9
  v9 := Tryz.zeroValue9
  t26 := Tryz.underlying110
  a26 := Tryz.isAgg110
  z26 := Tryz.sizeOf110
  v26 := Tryz.zeroValue110
  t27 := Tryz.underlying110
  a27 := Tryz.isAgg110
  z27 := Tryz.sizeOf110
  v27 := Tryz.zeroValue110
  t29 := Tryz.underlying9
  a29 := Tryz.isAgg9
  z29 := Tryz.sizeOf9
  v29 := Tryz.zeroValue9
  t32 := Tryz.underlying139
  a32 := Tryz.isAgg139
  z32 := Tryz.sizeOf139
  v32 := Tryz.zeroValue139
  t35 := Tryz.underlying321
  a35 := Tryz.isAgg321
  z35 := Tryz.sizeOf321
  v35 := Tryz.zeroValue321
  t36 := Tryz.underlying322
  a36 := Tryz.isAgg322
  z36 := Tryz.sizeOf322
  v36 := Tryz.zeroValue322
  t41 := Tryz.underlying161
  a41 := Tryz.isAgg161
  z41 := Tryz.sizeOf161
  v41 := Tryz.zeroValue161
  t44 := Tryz.underlying146
  a44 := Tryz.isAgg146
  z44 := Tryz.sizeOf146
  v44 := Tryz.zeroValue146
  t46 := Tryz.underlying330
  a46 := Tryz.isAgg330
  z46 := Tryz.sizeOf330
  v46 := Tryz.zeroValue330
  t53 := Tryz.underlying355
  a53 := Tryz.isAgg355
  z53 := Tryz.sizeOf355
  v53 := Tryz.zeroValue355
  t57 := Tryz.underlying359
  a57 := Tryz.isAgg359
  z57 := Tryz.sizeOf359
  v57 := Tryz.zeroValue359
  t63 := Tryz.underlying374
  a63 := Tryz.isAgg374
  z63 := Tryz.sizeOf374
  v63 := Tryz.zeroValue374
  t64 := Tryz.underlying199
  a64 := Tryz.isAgg199
  z64 := Tryz.sizeOf199
  v64 := Tryz.zeroValue199 }
open Go.Sort Go.RowKit in
theorem Tryz.slices_Sort_string (blk off cap : Nat) (ss : List (List UInt8)) (w : World) (hH : Holds encStr w blk off ss.toArray) (hblk : blk < w.heap.size) (hsz : ss.length < 4611686018427387904) :
    Calls Tryz.prog 173 #[.slice (some ⟨blk, off, none⟩) ss.length cap] w fun e w' =>
      e = .returned (.tuple #[]) ∧ ∃ n os, w' = grow (putRow encStr (Sort.ahead w n) blk off (ss.mergeSort fun x y => decide (x ≤ y)).toArray) os := AnyM.slices_Sort_string Tryz.laysSlM6_f173 blk off cap ss w hH hblk hsz
open Go.RowKit Go.Sort in
/-- .. and plain. (LAID AT THE INSTANCE 'slices.Sort[[]string,string]': no walk: one application.) -/
theorem Tryz.slices_Sort_string_none (p : Option Addr) (cap : Nat) (w : World) :
    Calls Tryz.prog 173 #[.slice p 0 cap] w fun e w' => e = .returned (.tuple #[]) ∧ w' = w := AnyM.slices_Sort_string_none Tryz.laysSlM6_f173 p cap w
end Go.Proofs
namespace Go.Proofs.YtgigigchjnnonaaGreatDoor
open Go Go.V

/-- The library's table of powers of ten lies on the heap. -/
def Tab (H : Heap) : Prop := ∀ w : World, w.heap = H → Lib.TabIs Tryz.prog w "internal/strconv.uint64pow10" .u64 Lib.pow10Tab
theorem Tab.ext {H H' : Heap} (h : Tab H) (hx : Ext H H') : Tab H' := by
  intro w hw
  have h' := h { w with heap := H } rfl
  unfold Lib.TabIs World.var? at h' ⊢
  cases hg : Tryz.prog.globalNamed "internal/strconv.uint64pow10" with
  | none => rw [hg] at h'; exact h'
  | some g =>
    rw [hg] at h'
    simp only [Option.bind_some] at h' ⊢
    rw [hw]
    cases hk : H[g]? with
    | none => rw [hk] at h'; cases h'
    | some o =>
      rw [hx.get g (Array.getElem?_eq_some_iff.1 hk).1]
      exact h'

theorem itoa_len {n : Int} (h0 : -9223372036854775808 ≤ n) (h1 : n ≤ 9223372036854775807) : (Lib.itoa n).length ≤ 21 := by
  unfold Lib.itoa
  split
  · have := Lib.nDigits_le20 n.natAbs (by omega)
    simp [Lib.decDigits_length]
    omega
  · have := Lib.nDigits_le20 n.toNat (by omega)
    rw [Lib.decDigits_length]
    omega

theorem F84 (n : Int) (H : Heap) (ht : Tab H) (h0 : -9223372036854775808 ≤ n) (h1 : n ≤ 9223372036854775807) :
    Fun Tryz.prog 84 #[.int .i64 n] H (fun r H' => r = .string ⟨(Lib.itoa n).toArray⟩ ∧ Ext H H') := by
  intro w hw
  refine (Tryz.strconv_Itoa n h0 h1 w (ht w hw)).mono ?_
  rintro e w' ⟨rfl, k, os, rfl⟩
  refine ⟨_, rfl, ⟨rfl, rfl, rfl, trivial⟩, rfl, ?_⟩
  subst hw
  exact ⟨by simp [Sort.grow, World.drewN], fun b hb => by simp [Sort.grow, World.drewN, Array.getElem?_append, hb]⟩

/-- The name of a generation. -/
def nameS (n : Int) : ByteArray := ⟨#[99, 107, 112, 116, 46]⟩ ++ ⟨(Lib.itoa n).toArray⟩
theorem F30 (n : Int) (H : Heap) (ht : Tab H) (h0 : -9223372036854775808 ≤ n) (h1 : n ≤ 9223372036854775807) :
    Fun Tryz.prog 30 #[.int .i64 n] H (fun r H' => r = .string (nameS n) ∧ Ext H H') := by
  refine fun_of mixed (args := [_]) Tryz.func30 Tryz.ntmps30 b30 r30 rfl ?_
  simp only [go_sem, ↓reduceIte, Nat.reduceEqDiff, Nat.reduceLeDiff, Nat.reduceAdd, Nat.reduceMul, Nat.reduceSub, Nat.reduceBEq, Nat.reduceGT, Nat.reduceLT, Int.reduceLE, Int.reduceLT, Int.reduceNeg, reduceCtorEq]
  refine FunI.by (F84 n H ht h0 h1) ?_
  rintro _ H1 ⟨rfl, hx⟩
  simp only [go_sem, ↓reduceIte, Nat.reduceEqDiff, Nat.reduceLeDiff, Nat.reduceAdd, Nat.reduceMul, Nat.reduceSub, Nat.reduceBEq, Nat.reduceGT, Nat.reduceLT, Int.reduceLE, Int.reduceLT, Int.reduceNeg, reduceCtorEq]
  refine ⟨?_, rfl, hx⟩
  have := itoa_len h0 h1
  show 5 + (Lib.itoa n).length ≤ _
  omega
end Go.Proofs.YtgigigchjnnonaaGreatDoor
namespace Go.Proofs.YtgigigchjnnonaaGreatDoor
open Go Go.V Go.ChangeShapes Go.WideShapes Go.ChangeAt Go.RowKit
theorem own : ownKnob Tryz.prog.godebug = none := by kernel_rfl
theorem laidOut : laidOutB Tryz.prog = true := by kernel_rfl
theorem gTab : Tryz.prog.globalNamed "pith/crc.table" = some 0 := by kernel_rfl
theorem gTabType : (Tryz.prog.globals[0]?).map (·.type) = some 354 := by kernel_rfl
theorem cellsTab : Tryz.prog.cellsOf 354 = 16 := by kernel_rfl
theorem cellsU32 : Tryz.prog.cellsOf 146 = 1 := by kernel_rfl
theorem cellsBool : Tryz.prog.cellsOf 4 = 1 := by kernel_rfl
def crcTab9 : List Int := (List.range 16).map fun i => wI (tabW i)
theorem gPow : Tryz.prog.globalNamed "internal/strconv.uint64pow10" = some 1 := by kernel_rfl
theorem gPowType : (Tryz.prog.globals[1]?).map (·.type) = some 371 := by kernel_rfl
theorem cellsPow : Tryz.prog.cellsOf 371 = 20 := by kernel_rfl
theorem cellsU64 : Tryz.prog.cellsOf 330 = 1 := by kernel_rfl
/-- What the rows' list gives: the table of powers of ten. -/
theorem pow_of {W : World} (h : laidMetH Tryz.prog Rows.ckptWholeRow.laid W) : Tab W.heap := by
  intro w hw
  rw [MakeChecks.laidMetH_plain _ _ _ (by kernel_rfl)] at h
  have h4 : Lib.TabIs Tryz.prog W "internal/strconv.uint64pow10" .u64 Lib.pow10Tab := Lib.tabIs_of_head gPow gPowType Tryz.underlying371 Tryz.underlying330 cellsU64 cellsPow (laidMet.tail (laidMet.tail (h)))
  unfold Lib.TabIs World.var? at h4 ⊢
  rw [hw]
  exact h4
/-- What the rows' list gives: the table of sums. -/
theorem tab_of {W : World} (h : laidMetH Tryz.prog Rows.ckptWholeRow.laid W) : CrcTab W.heap := by
  rw [MakeChecks.laidMetH_plain _ _ _ (by kernel_rfl)] at h
  have h4 : Lib.TabIs Tryz.prog W "pith/crc.table" .u32 crcTab9 := Lib.tabIs_of_head (rest := []) gTab gTabType Tryz.underlying354 Tryz.underlying146 cellsU32 cellsTab (laidMet.tail (laidMet.tail (laidMet.tail (h))))
  unfold Lib.TabIs World.var? at h4
  rw [gTab] at h4
  simp only [Option.bind_some] at h4
  split at h4
  · rename_i cs t fr hc
    simp only [Option.some.injEq] at h4
    refine ⟨t, fr, ?_⟩
    rw [hc, h4]
    congr 2
  · cases h4
/-- A world for the witness: the door's own. -/
theorem door_met (os : Os) (args : Array Value) : laidMet Tryz.prog Rows.ckptWholeRow.laid ((World.doorLaid Tryz.prog 400 os).forCall (fun _ _ => 0) ⟨#[], args, []⟩).memory :=
  laidMet_of_run' 8 (by kernel_rfl) (by kernel_rfl)
/-! ### What the bound gives -/
theorem bulk_one {D : Type} (d : DataW D) : 1 ≤ Rows.uptoBulk d := by
  cases d with
  | lit l => cases l <;> simp [Rows.uptoBulk]
  | nil => simp [Rows.uptoBulk]
  | ptr d => simp [Rows.uptoBulk]
  | slice elems spare => simp [Rows.uptoBulk]
  | agg parts => simp [Rows.uptoBulk]
  | iface t d => simp [Rows.uptoBulk]
  | map entries => simp [Rows.uptoBulk]
  | held h => simp [Rows.uptoBulk]
theorem bulk_len {D : Type} (l : List (DataW D)) : l.length ≤ Rows.uptoBulkAll l := by
  induction l with
  | nil => simp [Rows.uptoBulkAll]
  | cons x r ih => have := bulk_one x; simp only [Rows.uptoBulkAll, List.length_cons]; omega
theorem bulk_dlen {D : Type} (d : DataW D) : dlen d ≤ Rows.uptoBulk d := by
  cases d with
  | slice elems spare =>
    have := bulk_len elems
    simp only [dlen, Rows.uptoBulk]
    omega
  | _ => simp [dlen]
theorem cells_one {v : Value} {t : TypeId} {e : TypeId} {W : World} {base : Nat} (ht : Tryz.prog.underlying t = some (.slice e)) (hv : Value.okWide Tryz.prog W .any base t v) : v.cells.toList = [v] := by
  obtain ⟨a, n, m, rfl⟩ := okWide_slice ht hv
  rfl

theorem i64_rng {x : Int} (h : (Lit.int .i64 x).wf = true) : -9223372036854775808 ≤ x ∧ x < 9223372036854775808 := by
  simp only [Lit.wf, IntKind.min, IntKind.max, IntKind.signed, IntKind.bits, Bool.and_eq_true, decide_eq_true_eq] at h
  simp at h; omega
theorem cellsInt : Tryz.prog.cellsOf 3 = 1 := by kernel_rfl
theorem arg_bls {D : Type} {enc : TypeId × Value → D} {W : World} {base : Nat} {sp : Nat → Bool} {held : Bool} {v : Value} {d : DataW D} {qs : List MemPlace} (hv : Value.okWide Tryz.prog W .any base 23 v) (h : DataW.Trod enc Tryz.prog W 0 sp held 23 v d qs) :
    ∃ xs, Bls W.heap 4 v xs ∧ xs.length ≤ Rows.uptoBulk d := by
  obtain ⟨fuel, hf⟩ := h
  rw [cells_one Tryz.underlying23 hv] at hf
  obtain ⟨v', xs, e, hi, hd⟩ := open_boolsl Tryz.underlying23 Tryz.underlying4 cellsBool hf
  obtain rfl : v = v' := by simpa using e
  exact ⟨xs, hi, by rw [← hd]; exact bulk_dlen d⟩
/-- How long a slice that came in may be. -/
theorem dlen_reach {D : Type} {t e : TypeId} {d : DataW D} (ht : Tryz.prog.underlying t = some (.slice e)) (h : ∀ w ∈ d.weights Tryz.prog t, w ≤ reachBytes) : dlen d * Tryz.prog.bytesOf e ≤ reachBytes := by
  cases d with
  | slice els sp =>
    have := h ((els.length + sp.length) * Tryz.prog.bytesOf e) (by unfold DataW.weights; rw [ht]; simp)
    show els.length * Tryz.prog.bytesOf e ≤ reachBytes
    exact Nat.le_trans (Nat.mul_le_mul_right _ (Nat.le_add_right _ _)) this
  | _ => simp [dlen]
theorem bytesInt : Tryz.prog.bytesOf 3 = 8 := by kernel_rfl
theorem sized_is {D : Type} {enc : TypeId × Value → D} {W : World} {base : Nat} {sp : Nat → Bool} {held : Bool} {v : Value} {d : DataW D} {qs : List MemPlace} (hv : Value.okWide Tryz.prog W .any base 22 v) (h : DataW.Trod enc Tryz.prog W 0 sp held 22 v d qs) (hw : ∀ w ∈ d.weights Tryz.prog 22, w ≤ reachBytes) :
    ∃ xs, Ints W.heap 3 .i64 v xs ∧ xs.length ≤ 17592186043904 := by
  obtain ⟨fuel, hf⟩ := h
  rw [cells_one Tryz.underlying22 hv] at hf
  obtain ⟨v', xs, e, hi, hb, hd⟩ := open_intsl Tryz.underlying22 Tryz.underlying3 cellsInt hf
  obtain rfl : v = v' := by simpa using e
  have h8 := dlen_reach (t := 22) Tryz.underlying22 hw
  rw [bytesInt, hd] at h8
  unfold reachBytes at h8
  exact ⟨xs, hi, by omega⟩
end Go.Proofs.YtgigigchjnnonaaGreatDoor
namespace Go.Proofs.YtgigigchjnnonaaGreatDoor
open Go Go.V

def espec : Nat → List (List Int) → Option (List Int × List (List Int))
  | 0, l => some ([], l)
  | _ + 1, [] => none
  | n + 1, xs :: l => if (rdN xs (min 200 (n + 1))).2.2 = 0 then (espec (n + 1 - min 200 (n + 1)) l).map fun r => ((rdN xs (min 200 (n + 1))).1 ++ r.1, r.2) else none
theorem espec_zero {l : List (List Int)} : espec 0 l = some ([], l) := by cases l <;> rfl
theorem espec_cons {n : Nat} {xs : List Int} {l : List (List Int)} (h : 0 < n) : espec n (xs :: l) = if (rdN xs (min 200 n)).2.2 = 0 then (espec (n - min 200 n) l).map fun r => ((rdN xs (min 200 n)).1 ++ r.1, r.2) else none := by
  cases n with
  | zero => omega
  | succ n => rfl
theorem espec_nil {n : Nat} (h : 0 < n) : espec n [] = none := by
  cases n with
  | zero => omega
  | succ n => rfl
/-- An error stays. -/
theorem rdN_err {xs : List Int} {i : Nat} (h : (rdN xs i).2.2 ≠ 0) : ∀ j, (rdN xs (i + j)).2.2 ≠ 0
  | 0 => h
  | j + 1 => by
    have ih := rdN_err h j
    rw [← Nat.add_assoc]
    simp only [rdN, rstep, if_neg ih]
    exact ih
end Go.Proofs.YtgigigchjnnonaaGreatDoor
namespace Go.Proofs.YtgigigchjnnonaaGreatDoor
open Go Go.V

theorem decS_gen {id : Int} {head : List Int} {data : List (List Int)} (h : be head 0 ≠ id) : decS id head data = none := by
  unfold decS
  split
  · cases bspec (be head 8).toNat data with
    | none => rfl
    | some q =>
      obtain ⟨xs, l⟩ := q
      simp only
      cases dspec (be head 12).toNat l with
      | none => rfl
      | some ds =>
        simp only
        rw [if_neg]
        rintro ⟨_, h2, _⟩
        exact h h2
  · rfl
theorem head_wf (gen p : Int) (xs : List Int) (ds : List Bool) : Byt (chkHead gen p xs ds) := by
  intro x hx
  simp only [chkHead, List.mem_append] at hx
  rcases hx with ((h | h) | h) | h <;> exact four_wf _ x h
theorem first_head : chkHead 7 2 [3, 0, 300] [true, false] = [0, 0, 0, 7, 0, 0, 0, 2, 0, 0, 0, 3, 0, 0, 0, 2] := by decide
theorem first_data : chkData [3, 0, 300] [true, false] = [[3, 0, 130, 44], [1, 0]] := by
  have v3 : vput 3 = [3] := by rw [vput, show max (3 : Int) 0 = 3 from rfl, vlen_lt (by decide)]; rfl
  have v0 : vput 0 = [0] := by rw [vput, show max (0 : Int) 0 = 0 from rfl, vlen_lt (by decide)]; rfl
  have v300 : vput 300 = [130, 44] := by rw [vput, show max (300 : Int) 0 = 300 from rfl, vlen_ge (by decide), show (300 : Int) / 128 = 2 from rfl, vlen_lt (by decide)]; rfl
  simp only [chkData, pieces_cons (xs := [3, 0, 300]) (by decide), List.take, List.drop, pieces_nil, List.flatMap_cons, List.flatMap_nil, v3, v0, v300]
  rfl
theorem first_name : ((nameS 7).toList == (⟨#[99, 107, 112, 116, 46, 55]⟩ : ByteArray).toList) = true := by
  rw [toList_data, toList_data]
  have : Lib.itoa 7 = [55] := by simp [Lib.itoa, Lib.decDigits]
  rw [nameS, this]
  rfl

set_option maxHeartbeats 1600000 in
set_option maxRecDepth 20000 in
theorem F6 (H : Heap) (ht : Tab H) : Fun Tryz.prog 6 #[] H (fun r H' => r = .bool true ∧ Ext H H') := by
  refine fun_of mixed (args := []) Tryz.func6 Tryz.ntmps6 b6 r6 rfl ?_
  simp only [go_sem, ↓reduceIte, Nat.reduceEqDiff, Nat.reduceLeDiff, Nat.reduceAdd, Nat.reduceMul, Nat.reduceSub, Nat.reduceBEq, Nat.reduceGT, Nat.reduceLT, Int.reduceLE, Int.reduceLT, Int.reduceNeg, reduceCtorEq]
  have sz1 : (H.push (Obj.cells #[Value.int .i64 3, .int .i64 0, .int .i64 300] 3)).size = H.size + 1 := by simp
  have hx0 : Ext H ((H.push (Obj.cells #[Value.int .i64 3, .int .i64 0, .int .i64 300] 3)).push (Obj.cells #[.bool true, .bool false] 4)) := (Ext.push _).trans ((Ext.push _).mono (by simp))
  have hc : Chk ((H.push (Obj.cells #[Value.int .i64 3, .int .i64 0, .int .i64 300] 3)).push (Obj.cells #[.bool true, .bool false] 4)) 3 4 (.agg #[.int .i64 2, .slice (some ⟨H.size, 0, none⟩) 3 3, .slice (some ⟨(H.push (Obj.cells #[Value.int .i64 3, .int .i64 0, .int .i64 300] 3)).size, 0, none⟩) 2 2]) 2 [3, 0, 300] [true, false] :=
    ⟨_, _, rfl, Sl.ext (Sl.new (sz := 1) (n := 3) rfl) (Ext.push _), Sl.new (sz := 1) (n := 2) rfl⟩
  refine FunI.by (F11 _ 7 2 [3, 0, 300] [true, false] _ hc) ?_
  rintro r H1 ⟨hx1, hr⟩
  rcases hr with ⟨h, _⟩ | ⟨_, h, l, rfl, hh, hl⟩
  · exact absurd h (by decide)
  rw [first_head] at hh
  rw [first_data] at hl
  have w1 : Byt [0, 0, 0, 7, 0, 0, 0, 2, 0, 0, 0, 3, 0, 0, 0, 2] := by unfold Byt; decide
  have w2 : ∀ l ∈ ([[3, 0, 130, 44], [1, 0]] : List (List Int)), Byt l := by unfold Byt; decide
  have hhi : Ints H1 5 .u8 h [0, 0, 0, 7, 0, 0, 0, 2, 0, 0, 0, 3, 0, 0, 0, 2] := hh.sl
  simp only [go_sem, ↓reduceIte, Nat.reduceEqDiff, Nat.reduceLeDiff, Nat.reduceAdd, Nat.reduceMul, Nat.reduceSub, Nat.reduceBEq, Nat.reduceGT, Nat.reduceLT, Int.reduceLE, Int.reduceLT, Int.reduceNeg, reduceCtorEq]
  refine FunI.by (F14 h _ _ _ _ (hhi.ext (Ext.push _)) (show Ints _ 5 .u8 _ [0, 0, 0, 7, 0, 0, 0, 2, 0, 0, 0, 3, 0, 0, 0, 2] from Sl.new (sz := 1) (n := 16) rfl) w1 w1) ?_
  rintro _ _ ⟨rfl, rfl⟩
  simp only [go_sem, ↓reduceIte, Nat.reduceEqDiff, Nat.reduceLeDiff, Nat.reduceAdd, Nat.reduceMul, Nat.reduceSub, Nat.reduceBEq, Nat.reduceGT, Nat.reduceLT, Int.reduceLE, Int.reduceLT, Int.reduceNeg, reduceCtorEq]
  have hx2 : Ext H1 (H1.push (Obj.cells #[Value.int .u8 0, .int .u8 0, .int .u8 0, .int .u8 7, .int .u8 0, .int .u8 0, .int .u8 0, .int .u8 2, .int .u8 0, .int .u8 0, .int .u8 0, .int .u8 3, .int .u8 0, .int .u8 0, .int .u8 0, .int .u8 2] 5)) := Ext.push _
  have hxa : Ext H (H1.push (Obj.cells #[Value.int .u8 0, .int .u8 0, .int .u8 0, .int .u8 7, .int .u8 0, .int .u8 0, .int .u8 0, .int .u8 2, .int .u8 0, .int .u8 0, .int .u8 0, .int .u8 3, .int .u8 0, .int .u8 0, .int .u8 0, .int .u8 2] 5)) := hx0.trans ((hx1.mono hx0.size).trans (hx2.mono (Nat.le_trans hx0.size hx1.size)))
  replace hhi := hhi.ext hx2
  have hll := hl.lists.ext hx2
  generalize H1.push (Obj.cells #[Value.int .u8 0, .int .u8 0, .int .u8 0, .int .u8 7, .int .u8 0, .int .u8 0, .int .u8 0, .int .u8 2, .int .u8 0, .int .u8 0, .int .u8 0, .int .u8 3, .int .u8 0, .int .u8 0, .int .u8 0, .int .u8 2] 5) = H2 at *
  have e3 : Ext H2 (H2.push (Obj.cells #[Value.int .u8 3, .int .u8 0, .int .u8 130, .int .u8 44] 5)) := Ext.push _
  have e4 : Ext H2 ((H2.push (Obj.cells #[Value.int .u8 3, .int .u8 0, .int .u8 130, .int .u8 44] 5)).push (Obj.cells #[Value.int .u8 1, .int .u8 0] 5)) := e3.trans ((Ext.push _).mono e3.size)
  have e5 : ∀ x, Ext H2 (((H2.push (Obj.cells #[Value.int .u8 3, .int .u8 0, .int .u8 130, .int .u8 44] 5)).push (Obj.cells #[Value.int .u8 1, .int .u8 0] 5)).push x) := fun x => e4.trans ((Ext.push _).mono e4.size)
  refine FunI.by (F15 l _ [[3, 0, 130, 44], [1, 0]] [[3, 0, 130, 44], [1, 0]] _ (hll.ext (e5 _)) ?_ w2 w2 (by decide)) ?_
  · refine ⟨_, Sl.new (sz := 1) (n := 2) rfl, ?_, ?_, trivial⟩
    · exact Sl.ext (Sl.ext (Sl.new (sz := 1) (n := 4) rfl) (Ext.push _)) (Ext.push _)
    · exact Sl.ext (Sl.new (sz := 1) (n := 2) rfl) (Ext.push _)
  rintro _ _ ⟨rfl, rfl⟩
  simp only [go_sem, ↓reduceIte, Nat.reduceEqDiff, Nat.reduceLeDiff, Nat.reduceAdd, Nat.reduceMul, Nat.reduceSub, Nat.reduceBEq, Nat.reduceGT, Nat.reduceLT, Int.reduceLE, Int.reduceLT, Int.reduceNeg, reduceCtorEq]
  have hxb := hxa.trans ((e5 (Obj.cells #[.slice (some ⟨H2.size, 0, none⟩) 4 4, .slice (some ⟨(H2.push (Obj.cells #[Value.int .u8 3, .int .u8 0, .int .u8 130, .int .u8 44] 5)).size, 0, none⟩) 2 2] 53)).mono hxa.size)
  replace hhi := hhi.ext (e5 (Obj.cells #[.slice (some ⟨H2.size, 0, none⟩) 4 4, .slice (some ⟨(H2.push (Obj.cells #[Value.int .u8 3, .int .u8 0, .int .u8 130, .int .u8 44] 5)).size, 0, none⟩) 2 2] 53))
  replace hll := hll.ext (e5 (Obj.cells #[.slice (some ⟨H2.size, 0, none⟩) 4 4, .slice (some ⟨(H2.push (Obj.cells #[Value.int .u8 3, .int .u8 0, .int .u8 130, .int .u8 44] 5)).size, 0, none⟩) 2 2] 53))
  generalize ((H2.push (Obj.cells #[Value.int .u8 3, .int .u8 0, .int .u8 130, .int .u8 44] 5)).push (Obj.cells #[Value.int .u8 1, .int .u8 0] 5)).push (Obj.cells #[.slice (some ⟨H2.size, 0, none⟩) 4 4, .slice (some ⟨(H2.push (Obj.cells #[Value.int .u8 3, .int .u8 0, .int .u8 130, .int .u8 44] 5)).size, 0, none⟩) 2 2] 53) = H3 at *
  refine FunI.by (F17 8 h l [0, 0, 0, 7, 0, 0, 0, 2, 0, 0, 0, 3, 0, 0, 0, 2] [[3, 0, 130, 44], [1, 0]] H3 hhi w1 hll (fun xs hxs => ⟨w2 _ hxs, (show ∀ xs ∈ ([[3, 0, 130, 44], [1, 0]] : List (List Int)), xs.length ≤ 140737488350000 by decide) xs hxs⟩) (by decide)) ?_
  rintro r H4 hd
  rw [decS_gen (by decide)] at hd
  obtain ⟨hx4, rfl⟩ := hd
  have hxc := hxb.trans (hx4.mono hxb.size)
  simp only [go_sem, ↓reduceIte, Nat.reduceEqDiff, Nat.reduceLeDiff, Nat.reduceAdd, Nat.reduceMul, Nat.reduceSub, Nat.reduceBEq, Nat.reduceGT, Nat.reduceLT, Int.reduceLE, Int.reduceLT, Int.reduceNeg, reduceCtorEq]
  refine ⟨rfl, hcan_of push_new (by simp), ?_⟩
  rw [hput_push rfl]
  have hxd := hxc.trans ((Ext.push (Obj.cells #[Value.int .i64 0, .slice none 0 0, .slice none 0 0] 28)).mono hxc.size)
  rw [show [Value.int .i64 0, .slice none 0 0, .slice none 0 0].toArray = #[Value.int .i64 0, .slice none 0 0, .slice none 0 0] from rfl]
  generalize H4.push (Obj.cells #[Value.int .i64 0, .slice none 0 0, .slice none 0 0] 28) = H5 at *
  refine FunI.by (F16 0 H5) ?_
  rintro _ _ ⟨rfl, rfl⟩
  simp only [go_sem, ↓reduceIte, Nat.reduceEqDiff, Nat.reduceLeDiff, Nat.reduceAdd, Nat.reduceMul, Nat.reduceSub, Nat.reduceBEq, Nat.reduceGT, Nat.reduceLT, Int.reduceLE, Int.reduceLT, Int.reduceNeg, reduceCtorEq]
  refine FunI.by (F16 90 H5) ?_
  rintro _ _ ⟨rfl, rfl⟩
  simp only [go_sem, ↓reduceIte, Nat.reduceEqDiff, Nat.reduceLeDiff, Nat.reduceAdd, Nat.reduceMul, Nat.reduceSub, Nat.reduceBEq, Nat.reduceGT, Nat.reduceLT, Int.reduceLE, Int.reduceLT, Int.reduceNeg, reduceCtorEq]
  refine FunI.by (F30 7 H5 (ht.ext hxd) (by decide) (by decide)) ?_
  rintro _ H6 ⟨rfl, hx6⟩
  simp only [go_sem, ↓reduceIte, Nat.reduceEqDiff, Nat.reduceLeDiff, Nat.reduceAdd, Nat.reduceMul, Nat.reduceSub, Nat.reduceBEq, Nat.reduceGT, Nat.reduceLT, Int.reduceLE, Int.reduceLT, Int.reduceNeg, reduceCtorEq, first_name]
  exact hxd.trans (hx6.mono hxd.size)
end Go.Proofs.YtgigigchjnnonaaGreatDoor
namespace Go.Proofs.YtgigigchjnnonaaGreatDoor
open Go Go.V

/-- The bits that the last payload is read as. -/
def bitsOf (l : List (List Int)) : List Bool := (l.getD 0 []).map fun x => decide (x = 1)
/-- What the reference Decode answers. -/
def rdecS (id : Int) (head : List Int) (data : List (List Int)) : Option (Int × List Int × List Bool) :=
  if head.length = 16 ∧ be head 8 ≤ 16777216 ∧ be head 12 ≤ 1000 ∧ be head 8 ≤ data.length * 200 then
    match espec (be head 8).toNat data with
    | none => none
    | some (xs, l) => if l.length ≤ 1 ∧ mayC id (be head 4) xs (bitsOf l) = true ∧ chkHead id (be head 4) xs (bitsOf l) = head ∧ chkData xs (bitsOf l) = data ∧ be head 12 = (bitsOf l).length then some (be head 4, xs, bitsOf l) else none
  else none

theorem espec_len : ∀ (l : List (List Int)) (n : Nat) {xs : List Int} {r : List (List Int)}, espec n l = some (xs, r) → xs.length = n
  | _, 0, xs, r, h => by rw [espec_zero] at h; cases h; rfl
  | [], n + 1, xs, r, h => by rw [espec_nil (by omega)] at h; cases h
  | y :: l, n + 1, xs, r, h => by
    rw [espec_cons (by omega)] at h
    split at h
    · obtain ⟨q, hq, he⟩ := Option.map_eq_some_iff.1 h
      have := espec_len l _ (xs := q.1) (r := q.2) hq
      cases he
      rw [List.length_append, rdN_len, this]
      omega
    · cases h
theorem take4 {xs : List Int} {l : Nat} (h : l + 4 ≤ xs.length) : (xs.drop l).take 4 = [xs.getD l 0, xs.getD (l + 1) 0, xs.getD (l + 2) 0, xs.getD (l + 3) 0] := by
  apply List.ext_getElem?
  intro i
  rw [List.getElem?_take]
  split
  · rename_i hi
    have : i = 0 ∨ i = 1 ∨ i = 2 ∨ i = 3 := by omega
    have g : ∀ j, j < xs.length → xs[j]? = some (xs.getD j 0) := fun j hj => by rw [List.getD_eq_getElem?_getD, List.getElem?_eq_getElem hj]; rfl
    rcases this with rfl | rfl | rfl | rfl <;> simp only [List.getElem?_drop, List.getElem?_cons_zero, List.getElem?_cons_succ] <;> exact g _ (by omega)
  · rw [List.getElem?_eq_none]
    simp; omega
end Go.Proofs.YtgigigchjnnonaaGreatDoor
namespace Go.Proofs.YtgigigchjnnonaaGreatDoor
open Go Go.V

/-- The form of one number: all but the last byte have the high bit. -/
def Form : List Int → Prop
  | [] => False
  | [y] => 0 ≤ y ∧ y < 128
  | y :: z :: r => (128 ≤ y ∧ y < 256) ∧ Form (z :: r)
theorem vval_cons (y : Int) (r : List Int) : vval (y :: r) = (y % 128) * 128 ^ r.length + vval r := by
  have key : ∀ (r : List Int) (a : Int), r.foldl (fun a x => a * 128 + x % 128) a = a * 128 ^ r.length + r.foldl (fun a x => a * 128 + x % 128) 0 := by
    intro r
    induction r with
    | nil => intro a; simp
    | cons z r ih =>
      intro a
      rw [List.foldl_cons, List.foldl_cons, ih, ih (0 * 128 + z % 128), List.length_cons, Int.pow_succ]
      rw [Int.add_mul, Int.zero_mul, Int.zero_add, Int.add_assoc]
      congr 1
      rw [Int.mul_assoc, Int.mul_comm 128]
  unfold vval
  rw [List.foldl_cons, key]
  simp
theorem p128 (n : Nat) : (0 : Int) < 128 ^ n := Int.pow_pos (by omega)
/-- x in base 128. -/
theorem vtail_eq : ∀ {ys : List Int}, Form ys → ∀ {x q : Int}, x = q * 128 ^ ys.length + vval ys → vtail x ys.length = ys
  | [y], h, x, q, hx => by
    obtain ⟨h0, h1⟩ := h
    have hv : vval [y] = y := by simp [vval]; omega
    rw [hv] at hx
    simp only [List.length_singleton, Int.pow_one] at hx
    simp only [List.length_singleton, vtail, if_true, Int.pow_zero, Int.ediv_one]
    congr 1
    omega
  | y :: z :: r, ⟨⟨h0, h1⟩, hf⟩, x, q, hx => by
    rw [vval_cons, List.length_cons, Int.pow_succ] at hx
    have hb := vval_lt (z :: r)
    have hp := p128 (z :: r).length
    have hx2 : x = (q * 128 + y % 128) * 128 ^ (z :: r).length + vval (z :: r) := by
      rw [hx, Int.add_mul, Int.mul_assoc q, Int.mul_comm 128, ← Int.add_assoc]
    have ih := vtail_eq hf hx2
    have hd : x / 128 ^ (z :: r).length = q * 128 + y % 128 := by
      rw [hx2, Int.add_comm, Int.add_mul_ediv_right _ _ (by omega), Int.ediv_eq_zero_of_lt hb.1 hb.2, Int.zero_add]
    rw [List.length_cons, vtail, ih, hd, if_neg (by simp)]
    congr 1
    omega
theorem vlen_pow : ∀ (n : Nat) {x : Int}, (n = 0 ∨ 128 ^ n ≤ x) → x < 128 ^ (n + 1) → vlen x = n + 1
  | 0, x, _, h => vlen_lt (by simp at h; omega)
  | n + 1, x, h0, h1 => by
    have h0 : (128 : Int) ^ (n + 1) ≤ x := h0.resolve_left (by omega)
    have hp := p128 n
    rw [Int.pow_succ] at h0 h1
    have hp1 := p128 (n + 1)
    have h128 : 128 ≤ x := by omega
    rw [vlen_ge h128, vlen_pow n (x := x / 128) ?_ (by omega)]
    exact .inr (by omega)
theorem form_len {ys : List Int} (h : Form ys) : 0 < ys.length := by
  cases ys with
  | nil => exact h.elim
  | cons y ys => simp
/-- A form whose first byte is not 128 is the form of its value. -/
theorem vput_vval {ys : List Int} (h : Form ys) (hh : ys.head? ≠ some 128) : vput (vval ys) = ys := by
  have hb := vval_lt ys
  have hm : max (vval ys) 0 = vval ys := Int.max_eq_left hb.1
  have hl := form_len h
  have hv : vlen (vval ys) = ys.length := by
    have := vlen_pow (ys.length - 1) (x := vval ys) ?_ (by rw [show ys.length - 1 + 1 = ys.length by omega]; exact hb.2)
    · omega
    · match ys, h, hh with
      | [y], _, _ => exact .inl rfl
      | y :: z :: r, h, hh =>
        right
        rw [vval_cons]
        obtain ⟨⟨h0, h1⟩, _⟩ := h
        have hr := vval_lt (z :: r)
        have hp := p128 (z :: r).length
        have hy : y ≠ 128 := by simpa using hh
        have hy1 : 1 ≤ y % 128 := by omega
        have := Int.mul_le_mul_of_nonneg_right hy1 (Int.le_of_lt hp)
        simp only [List.length_cons, Nat.add_sub_cancel] at *
        omega
  rw [vput, hm, hv]
  exact vtail_eq h (q := 0) (by simp)
theorem vtail_form (x : Int) : ∀ n, Form (vtail x (n + 1))
  | 0 => by simp only [vtail, if_true, Form]; omega
  | n + 1 => by
    have := vtail_form x n
    show Form (((x / 128 ^ (n + 1)) % 128 + if n + 1 = 0 then 0 else 128) :: vtail x (n + 1))
    rw [if_neg (by omega)]
    cases h : vtail x (n + 1) with
    | nil => rw [h] at this; exact this.elim
    | cons z r =>
      rw [h] at this
      exact ⟨by omega, this⟩
theorem vval_vtail {x : Int} : ∀ n, ∃ q, x = q * 128 ^ n + vval (vtail x n)
  | 0 => ⟨x, by simp [vtail, vval]⟩
  | n + 1 => by
    obtain ⟨q, hq⟩ := vval_vtail (x := x) n
    have hb := vval_lt (vtail x n)
    rw [vtail_len] at hb
    have hp := p128 n
    have hd : x / 128 ^ n = q := by
      conv => lhs; rw [hq]
      rw [Int.add_comm, Int.add_mul_ediv_right _ _ (by omega), Int.ediv_eq_zero_of_lt hb.1 hb.2, Int.zero_add]
    refine ⟨q / 128, ?_⟩
    rw [vtail, vval_cons, vtail_len, hd]
    have he : (q % 128 + if n = 0 then 0 else 128) % 128 = q % 128 := by split <;> omega
    rw [he, Int.pow_succ]
    have h1 : q = q / 128 * 128 + q % 128 := by omega
    have h2 : q * 128 ^ n = (q / 128 * 128 + q % 128) * 128 ^ n := by rw [← h1]
    rw [Int.add_mul] at h2
    rw [Int.mul_comm (128 ^ n) 128, ← Int.mul_assoc]
    omega
theorem vlen_pow' {x : Int} (h0 : 0 ≤ x) : ∀ n, x < 128 ^ (n + 1) → ∃ m, m ≤ n ∧ vlen x = m + 1 ∧ (m = 0 ∨ 128 ^ m ≤ x) ∧ x < 128 ^ (m + 1)
  | 0, h => ⟨0, by omega, vlen_pow 0 (.inl rfl) h, .inl rfl, h⟩
  | n + 1, h => by
    by_cases hx : x < 128 ^ (n + 1)
    · obtain ⟨m, h1, h2⟩ := vlen_pow' h0 n hx
      exact ⟨m, by omega, h2⟩
    · exact ⟨n + 1, by omega, vlen_pow (n + 1) (.inr (by omega)) h, .inr (by omega), h⟩
theorem form_get : ∀ {ys : List Int}, Form ys → ∀ rest, (∀ k, k < ys.length - 1 → 128 ≤ (ys ++ rest).getD k 0) ∧ (ys ++ rest).getD (ys.length - 1) 0 < 128
  | [y], h, rest => by
    refine ⟨fun k hk => by simp at hk, ?_⟩
    simpa using h.2
  | y :: z :: r, ⟨h0, hf⟩, rest => by
    obtain ⟨h1, h2⟩ := form_get hf rest
    refine ⟨fun k hk => ?_, ?_⟩
    · cases k with
      | zero => simpa using h0.1
      | succ k =>
        have := h1 k (by simp at hk ⊢; omega)
        simpa using this
    · simpa using h2
/-- What was put is read back. -/
theorem vform_vput {x : Int} (h0 : 0 ≤ x) (h1 : x < 9223372036854775808) (rest : List Int) : vform (vput x ++ rest) = (x, ((vput x).length : Int), 0) := by
  obtain ⟨m, hm, hl, hlo, hhi⟩ := vlen_pow' h0 8 h1
  have hmax : max x 0 = x := Int.max_eq_left h0
  have hput : vput x = vtail x (m + 1) := by rw [vput, hmax, hl]
  have hf := vtail_form x m
  have hlen := vtail_len x (m + 1)
  have hval : vval (vtail x (m + 1)) = x := by
    obtain ⟨q, hq⟩ := vval_vtail (x := x) (m + 1)
    have hb := vval_lt (vtail x (m + 1))
    rw [hlen] at hb
    have hp := p128 (m + 1)
    have hq0 : q = 0 := by
      have h2 : x / 128 ^ (m + 1) = q := by
        conv => lhs; rw [hq]
        rw [Int.add_comm, Int.add_mul_ediv_right _ _ (by omega), Int.ediv_eq_zero_of_lt hb.1 hb.2, Int.zero_add]
      rw [← h2]
      exact Int.ediv_eq_zero_of_lt h0 hhi
    rw [hq0] at hq
    omega
  rw [hput]
  obtain ⟨g1, g2⟩ := form_get hf rest
  rw [hlen, Nat.add_sub_cancel] at g1 g2
  have hlead : lead 9 (vtail x (m + 1) ++ rest) = m := lead_eq g1 (.inr (.inr g2)) (by omega) (by simp [hlen]; omega)
  have hh : (vtail x (m + 1) ++ rest).head? ≠ some 128 := by
    rcases hlo with rfl | hlo
    · simp only [vtail, if_true, Int.pow_zero, Int.ediv_one, List.cons_append, List.head?_cons, ne_eq, Option.some.injEq]
      omega
    · have hp := p128 m
      have hd1 : 1 ≤ x / 128 ^ m := by rw [Int.le_ediv_iff_mul_le hp]; omega
      have hd2 : x / 128 ^ m < 128 := by rw [Int.ediv_lt_iff_lt_mul hp, Int.mul_comm, ← Int.pow_succ]; exact hhi
      simp only [vtail, List.cons_append, List.head?_cons, ne_eq, Option.some.injEq]
      split <;> omega
  unfold vform
  rw [if_neg hh, hlead, if_neg (by omega), if_neg (by simp [hlen]; omega)]
  have ht : (vtail x (m + 1) ++ rest).take (m + 1) = vtail x (m + 1) := by
    rw [List.take_append_of_le_length (by omega), List.take_of_length_le (by omega)]
  rw [ht, hval, hlen]
  rfl
theorem lead_form : ∀ (n : Nat) {ys : List Int}, Byt ys → lead n ys < n → lead n ys < ys.length → Form (ys.take (lead n ys + 1))
  | 0, ys, _, h, _ => by omega
  | n + 1, [], _, _, h => by simp at h
  | n + 1, y :: ys, hw, h1, h2 => by
    have hy := hw y (by simp)
    have hw' : Byt ys := fun z hz => hw z (by simp [hz])
    simp only [lead] at h1 h2 ⊢
    by_cases h128 : 128 ≤ y
    · rw [if_pos h128] at h1 h2 ⊢
      have ih := lead_form n hw' (by omega) (by simp at h2; omega)
      rw [List.take_succ_cons]
      cases ht : ys.take (lead n ys + 1) with
      | nil => rw [ht] at ih; exact ih.elim
      | cons z r =>
        rw [ht] at ih
        exact ⟨⟨h128, hy.2⟩, ih⟩
    · rw [if_neg h128]
      exact ⟨hy.1, by omega⟩
/-- What is taken is what is put. -/
theorem vform_canon {ys : List Int} (hw : Byt ys) (h : (vform ys).2.2 = 0) : ys.take (vform ys).2.1.toNat = vput (vform ys).1 ∧ 0 ≤ (vform ys).1 := by
  unfold vform at h ⊢
  split
  · rename_i h1; rw [if_pos h1] at h; simp at h
  · rename_i h1
    rw [if_neg h1] at h
    split
    · rename_i h2; rw [if_pos h2] at h; simp at h
    · rename_i h2
      rw [if_neg h2] at h
      split
      · rename_i h3; rw [if_pos h3] at h; simp at h
      · rename_i h3
        have hle := lead_le 9 ys
        have hf := lead_form 9 hw (by omega) (by omega)
        refine ⟨?_, (vval_lt _).1⟩
        simp only
        rw [show ((lead 9 ys : Int) + 1).toNat = lead 9 ys + 1 by omega]
        refine (vput_vval hf ?_).symm
        rw [List.head?_take]
        simpa using h1
end Go.Proofs.YtgigigchjnnonaaGreatDoor
namespace Go.Proofs.YtgigigchjnnonaaGreatDoor
open Go Go.V

theorem byt_drop {xs : List Int} (h : Byt xs) (n : Nat) : Byt (xs.drop n) := fun x hx => h x (List.mem_of_mem_drop hx)
theorem rdN_le (xs : List Int) : ∀ k, (rdN xs k).2.1 ≤ xs.length
  | 0 => Nat.zero_le _
  | k + 1 => rstep_le (rdN_le xs k)
/-- Numbers read without an error are what was put. -/
theorem rdN_canon {ys : List Int} (hw : Byt ys) : ∀ k, (rdN ys k).2.2 = 0 → ys.take (rdN ys k).2.1 = (rdN ys k).1.flatMap vput ∧ ∀ v ∈ (rdN ys k).1, 0 ≤ v
  | 0, _ => by simp [rdN]
  | k + 1, h => by
    have hk : (rdN ys k).2.2 = 0 := by
      rcases Int.decEq (rdN ys k).2.2 0 with hn | hn
      · exact absurd h (rdN_err hn 1)
      · exact hn
    obtain ⟨ih, ihn⟩ := rdN_canon hw k hk
    have hp := rdN_le ys k
    simp only [rdN, rstep, rval, if_pos hk] at h ⊢
    obtain ⟨h1, h2⟩ := vform_canon (byt_drop hw (rdN ys k).2.1) h
    refine ⟨?_, ?_⟩
    · rw [List.take_add, ih, h1]
      simp
    · intro v hv
      rcases List.mem_append.1 hv with hv | hv
      · exact ihn v hv
      · rw [List.mem_singleton.1 hv]; exact h2
/-- What was put is read back. -/
theorem rdN_put (xs : List Int) (hx : ∀ x ∈ xs, 0 ≤ x ∧ x < 9223372036854775808) : ∀ k, k ≤ xs.length → rdN (xs.flatMap vput) k = (xs.take k, (((xs.take k).flatMap vput).length, 0))
  | 0, _ => by simp [rdN]
  | k + 1, h => by
    have ih := rdN_put xs hx k (by omega)
    have hk : k < xs.length := by omega
    have hxk := hx _ (mem_getD (xs := xs) hk 0)
    have hsplit : xs.flatMap vput = (xs.take k).flatMap vput ++ (vput (xs.getD k 0) ++ (xs.drop (k + 1)).flatMap vput) := by
      conv => lhs; rw [← List.take_append_drop k xs]
      rw [List.flatMap_append]
      congr 1
      rw [List.drop_eq_getElem_cons hk, List.flatMap_cons]
      congr 2
      simp [List.getD_eq_getElem?_getD, List.getElem?_eq_getElem hk]
    have hdrop : (xs.flatMap vput).drop ((xs.take k).flatMap vput).length = vput (xs.getD k 0) ++ (xs.drop (k + 1)).flatMap vput := by
      rw [hsplit, List.drop_left]
    have hv := vform_vput hxk.1 hxk.2 ((xs.drop (k + 1)).flatMap vput)
    simp only [rdN, ih, rstep, rval, if_true, hdrop, hv]
    rw [take_succ_getD hk 0]
    simp
theorem espec_of_bspec : ∀ (l : List (List Int)) (n : Nat) {xs : List Int} {r : List (List Int)}, bspec n l = some (xs, r) → espec n l = some (xs, r)
  | _, 0, xs, r, h => by rw [bspec_zero] at h; rw [espec_zero]; exact h
  | [], n + 1, xs, r, h => by rw [bspec_nil (by omega)] at h; cases h
  | y :: l, n + 1, xs, r, h => by
    rw [bspec_cons (by omega)] at h
    rw [espec_cons (by omega)]
    split at h
    · rename_i hc
      obtain ⟨q, hq, he⟩ := Option.map_eq_some_iff.1 h
      simp only [clean, decide_eq_true_eq] at hc
      rw [if_pos hc.1, espec_of_bspec l _ (xs := q.1) (r := q.2) hq]
      cases he
      rfl
    · cases h
theorem bspec_len {l : List (List Int)} {n : Nat} {xs : List Int} {r : List (List Int)} (h : bspec n l = some (xs, r)) : xs.length = n := espec_len l n (espec_of_bspec l n h)
theorem pieces_app {a b : List Int} (ha : 0 < a.length) (h : a.length ≤ 200) (hb : a.length = 200 ∨ b = []) : pieces (a ++ b) = a.flatMap vput :: pieces b := by
  rw [pieces_cons (by simp; omega)]
  rcases hb with hb | rfl
  · rw [List.take_append_of_le_length (by omega), List.take_of_length_le (by omega), List.drop_append_of_le_length (by omega), List.drop_of_length_le (by omega), List.nil_append]
  · rw [List.append_nil, List.take_of_length_le (by omega), List.drop_of_length_le (by omega)]
/-- What is taken is what is put. -/
theorem bspec_canon : ∀ (l : List (List Int)) (n : Nat) {xs : List Int} {r : List (List Int)}, (∀ y ∈ l, Byt y) → bspec n l = some (xs, r) → l = pieces xs ++ r ∧ ∀ x ∈ xs, 0 ≤ x
  | l, 0, xs, r, _, h => by
    rw [bspec_zero] at h
    cases h
    simp [pieces_nil]
  | [], n + 1, xs, r, _, h => by rw [bspec_nil (by omega)] at h; cases h
  | y :: l, n + 1, xs, r, hw, h => by
    rw [bspec_cons (by omega)] at h
    split at h
    · rename_i hc
      obtain ⟨⟨a, b⟩, hq, he⟩ := Option.map_eq_some_iff.1 h
      have hlen := bspec_len hq
      obtain ⟨ih, ihn⟩ := bspec_canon l _ (fun z hz => hw z (by simp [hz])) hq
      simp only [clean, decide_eq_true_eq] at hc
      obtain ⟨h1, h2⟩ := rdN_canon (hw y (by simp)) _ hc.1
      have hl := rdN_len y (min 200 (n + 1))
      rw [hc.2, List.take_of_length_le (Nat.le_refl _)] at h1
      have he' : (rdN y (min 200 (n + 1))).1 ++ a = xs ∧ b = r := by simpa using he
      obtain ⟨rfl, rfl⟩ := he'
      refine ⟨?_, ?_⟩
      · rw [pieces_app (by omega) (by omega) ?_, ← h1, ih]
        · rfl
        · by_cases h200 : 200 ≤ n + 1
          · exact .inl (by omega)
          · exact .inr (List.eq_nil_of_length_eq_zero (by omega))
      · intro x hx
        rcases List.mem_append.1 hx with hx | hx
        · exact h2 x hx
        · exact ihn x hx
    · cases h
/-- What was put is read back. -/
theorem bspec_put : ∀ (m : Nat) (xs : List Int) (r : List (List Int)), xs.length ≤ m → (∀ x ∈ xs, 0 ≤ x ∧ x < 9223372036854775808) → bspec xs.length (pieces xs ++ r) = some (xs, r)
  | m, [], r, _, _ => by rw [pieces_nil]; exact bspec_zero
  | 0, x :: xs, r, h, _ => by simp at h
  | m + 1, x :: xs, r, h, hx => by
    obtain ⟨ys, hys⟩ : ∃ ys, ys = x :: xs := ⟨_, rfl⟩
    rw [← hys] at h hx ⊢
    have hl : 0 < ys.length := by rw [hys]; simp
    have hxt : ∀ z ∈ ys.take 200, 0 ≤ z ∧ z < 9223372036854775808 := fun z hz => hx z (List.mem_of_mem_take hz)
    have hr := rdN_put (ys.take 200) hxt (ys.take 200).length (Nat.le_refl _)
    rw [List.take_of_length_le (Nat.le_refl _)] at hr
    have hk : (ys.take 200).length = min 200 ys.length := by simp
    rw [pieces_cons hl, List.cons_append, bspec_cons hl, ← hk, hr, if_pos (by simp [clean])]
    have ih := bspec_put m (ys.drop 200) r (by simp; omega) (fun z hz => hx z (List.mem_of_mem_drop hz))
    rw [List.length_drop] at ih
    rw [show ys.length - (ys.take 200).length = ys.length - 200 by simp; omega, ih]
    simp

theorem four_be {xs : List Int} (hw : Byt xs) {i : Nat} (h : i + 4 ≤ xs.length) : four (be xs i) = (xs.drop i).take 4 := by
  rw [take4 h]
  have h0 := hw _ (mem_getD (xs := xs) (i := i) (by omega) 0)
  have h1 := hw _ (mem_getD (xs := xs) (i := i + 1) (by omega) 0)
  have h2 := hw _ (mem_getD (xs := xs) (i := i + 2) (by omega) 0)
  have h3 := hw _ (mem_getD (xs := xs) (i := i + 3) (by omega) 0)
  unfold four be
  simp only [List.cons.injEq, and_true]
  omega
theorem head_be {xs : List Int} (hw : Byt xs) (h : xs.length = 16) : four (be xs 0) ++ four (be xs 4) ++ four (be xs 8) ++ four (be xs 12) = xs := by
  rw [four_be hw (by omega), four_be hw (by omega), four_be hw (by omega), four_be hw (by omega)]
  have e : ∀ (i : Nat), xs.drop i = (xs.drop i).take 4 ++ xs.drop (i + 4) := fun i => by rw [← List.drop_drop, List.take_append_drop]
  conv => rhs; rw [← List.drop_zero (l := xs), e 0, e 4, e 8, e 12]
  rw [List.drop_of_length_le (i := 12 + 4) (by omega)]
  simp
theorem be_four {a b c d : Int} (ha : 0 ≤ a ∧ a < 4294967296) (hb : 0 ≤ b ∧ b < 4294967296) (hc : 0 ≤ c ∧ c < 4294967296) (hd : 0 ≤ d ∧ d < 4294967296) :
    be (four a ++ four b ++ four c ++ four d) 0 = a ∧ be (four a ++ four b ++ four c ++ four d) 4 = b ∧ be (four a ++ four b ++ four c ++ four d) 8 = c ∧ be (four a ++ four b ++ four c ++ four d) 12 = d := by
  simp only [be, four, List.cons_append, List.nil_append, List.getD_cons_succ, List.getD_cons_zero]
  omega
theorem b2i_bit (bs : List Bool) : ((bs.map b2i).map fun x => decide (x = 1)) = bs := by
  rw [List.map_map]
  conv => rhs; rw [← List.map_id bs]
  apply List.map_congr_left
  intro b _
  cases b <;> rfl
theorem bit_b2i {ys : List Int} (h : ∀ y ∈ ys, 0 ≤ y ∧ y ≤ 1) : (ys.map fun x => decide (x = 1)).map b2i = ys := by
  rw [List.map_map]
  conv => rhs; rw [← List.map_id ys]
  apply List.map_congr_left
  intro y hy
  have := h y hy
  have : y = 0 ∨ y = 1 := by omega
  rcases this with rfl | rfl <;> rfl

theorem mayC_iff {gen p : Int} {xs : List Int} {ds : List Bool} : mayC gen p xs ds = true ↔ (1 ≤ gen ∧ gen ≤ 2147483647 ∧ 0 ≤ p ∧ p ≤ 2147483647 ∧ xs.length ≤ 16777216 ∧ ds.length ≤ 1000 ∧ ∀ x ∈ xs, 0 ≤ x ∧ x < 16777216) := by
  unfold mayC
  rw [decide_eq_true_eq]

theorem pieces_ge : ∀ (m : Nat) (xs : List Int), xs.length ≤ m → xs.length ≤ (pieces xs).length * 200
  | m, [], _ => by simp
  | 0, x :: xs, h => by simp at h
  | m + 1, x :: xs, h => by
    rw [pieces_cons (by simp)]
    have ih := pieces_ge m ((x :: xs).drop 200) (by simp at h ⊢; omega)
    simp at ih ⊢
    omega

/-- Decode just takes what Encode makes. -/
theorem decS_iff {id : Int} {head : List Int} {data : List (List Int)} (hw : Byt head) (hd : ∀ y ∈ data, Byt y) {p : Int} {xs : List Int} {ds : List Bool} :
    decS id head data = some (p, xs, ds) ↔ (mayC id p xs ds = true ∧ chkHead id p xs ds = head ∧ chkData xs ds = data) := by
  constructor
  · intro h
    unfold decS at h
    split at h
    · rename_i hc
      obtain ⟨h16, hn, hn2, hs⟩ := hc
      cases hb : bspec (be head 8).toNat data with
      | none => rw [hb] at h; cases h
      | some q =>
        obtain ⟨a, l⟩ := q
        rw [hb] at h
        simp only at h
        cases hq : dspec (be head 12).toNat l with
        | none => rw [hq] at h; cases h
        | some bs =>
          rw [hq] at h
          simp only at h
          split at h
          · rename_i hm
            obtain ⟨hm, h0, h8, h12⟩ := hm
            have he : be head 4 = p ∧ a = xs ∧ bs = ds := by simpa using h
            obtain ⟨rfl, rfl, rfl⟩ := he
            refine ⟨hm, ?_, ?_⟩
            · rw [chkHead, ← h0, ← h8, ← h12]
              exact head_be hw h16
            · obtain ⟨hdat, _⟩ := bspec_canon data _ hd hb
              rw [chkData]
              conv => rhs; rw [hdat]
              congr 1
              unfold dspec at hq
              split at hq
              · rename_i hz
                split at hq
                · rename_i hl
                  cases hq
                  rw [List.eq_nil_of_length_eq_zero hl]
                  rfl
                · cases hq
              · rename_i hz
                split at hq
                · rename_i hc
                  obtain ⟨hl1, hl2, hle⟩ := hc
                  have hq' : ((l.getD 0 []).map fun x => decide (x = 1)) = bs := by simpa using hq
                  rw [← hq', if_neg (by rw [List.length_map]; omega)]
                  have hl : l = [l.getD 0 []] := by
                    match l, hl1 with
                    | [y], _ => rfl
                  have hin : l.getD 0 [] ∈ data := by
                    rw [hdat]
                    apply List.mem_append_right
                    rw [hl]
                    simp
                  rw [bit_b2i fun y hy => ⟨(hd _ hin y hy).1, hle y hy⟩]
                  exact hl.symm
                · cases hq
          · cases h
    · cases h
  · rintro ⟨hm, rfl, rfl⟩
    obtain ⟨m1, m2, m3, m4, m5, m6, m7⟩ := mayC_iff.1 hm
    obtain ⟨e0, e4, e8, e12⟩ := be_four (a := id) (b := p) (c := xs.length) (d := ds.length) (by omega) (by omega) (by omega) (by omega)
    have hp := pieces_ge _ xs (Nat.le_refl _)
    have hb := bspec_put _ xs (if ds.length = 0 then [] else [ds.map b2i]) (Nat.le_refl _) (fun x hx => by have := m7 x hx; omega)
    unfold decS
    rw [chkHead, e0, e4, e8, e12, if_pos ⟨by simp [four], by omega, by rw [chkData, List.length_append]; omega, by omega⟩, Int.toNat_natCast, chkData, hb]
    simp only [Int.toNat_natCast]
    have hds : dspec ds.length (if ds.length = 0 then [] else [ds.map b2i]) = some ds := by
      unfold dspec
      split
      · rename_i hz
        rw [if_pos (by rfl)]
        exact congrArg some (List.eq_nil_of_length_eq_zero hz).symm
      · rename_i hz
        have hle : ∀ x ∈ ds.map b2i, x ≤ 1 := by
          intro x hx
          obtain ⟨b, _, rfl⟩ := List.mem_map.1 hx
          cases b <;> decide
        rw [if_pos ⟨by simp, by simp, by simpa using hle⟩]
        exact congrArg some (b2i_bit ds)
    rw [hds]
    simp only
    rw [if_pos ⟨hm, trivial, trivial, trivial⟩]
end Go.Proofs.YtgigigchjnnonaaGreatDoor
namespace Go.V
open Go
/-- The power is on, and no operation is armed. -/
structure Peace (s : St) : Prop where
  ok : Ok s
  on : s.off = false
  arm : s.fuse = 0
theorem begin_calm {s : St} (h : s.off = false) {n : Nm} (hn : isNm n = true) : beginS s [n] = 0 := by
  unfold beginS; simp [hn, h]
theorem find_calm {s : St} (h : Peace s) {n : Nm} {x : Nat} (hx : s.now n = some x) : findS s n = (some x, 0) := by
  unfold findS
  rw [begin_calm h.on (h.ok.nowN _ _ hx)]
  simp [hx]
theorem read_calm {s : St} (h : Peace s) {n : Nm} {x : Nat} (hx : s.now n = some x) {a k : Int} (ha : 0 ≤ a) (hk : 0 ≤ k) : readS s n a k = (((s.dat x).drop a.toNat).take k.toNat, 0) := by
  unfold readS
  rw [find_calm h hx]
  simp only
  rw [if_neg (by omega)]
theorem setF_same {α : Type} (f : Nat → α) (x : Nat) (v : α) : setF f x v x = v := if_pos rfl
theorem setF_ne {α : Type} (f : Nat → α) (x : Nat) (v : α) {y : Nat} (h : y ≠ x) : setF f x v y = f y := if_neg h
theorem move_same {D : Dir} {x : Nat} {n : Nm} (hn : n ≠ emptyNm) : moveD D x n n = some x := by unfold moveD; rw [if_pos ⟨rfl, hn⟩]
theorem move_ne {D : Dir} {x : Nat} {n m : Nm} (hm : m ≠ n) (hx : D m ≠ some x) : moveD D x n m = D m := by
  unfold moveD; rw [if_neg (fun h => hm h.1), if_neg hx]
theorem isNm_ne {n : Nm} (h : isNm n = true) : n ≠ emptyNm := by
  rintro rfl
  revert h
  decide
end Go.V
namespace Go.Proofs.YtgigigchjnnonaaGreatDoor
open Go Go.V
/-- Frames, one behind the other. -/
def rowB (r : List (Int × List Int)) : List Int := (r.map fun f => encL f.1 f.2).flatten
theorem rowB_snoc (r : List (Int × List Int)) (k : Int) (p : List Int) : rowB (r ++ [(k, p)]) = rowB r ++ encL k p := by simp [rowB]
def fileR (hd : List Int) (data : List (List Int)) : List (Int × List Int) := (1, hd) :: data.map (fun p => (2, p)) ++ [(3, be4 data.length)]
theorem encE_ok {k : Int} {p : List Int} (hk : k = 1 ∨ k = 2 ∨ k = 3) (hp : p.length ≤ 1024) : encE k p = 0 := by
  unfold encE; rw [if_neg (not_not_intro hk), if_neg (by omega)]
/-- A writer in the midst of a file: x is its file, r the frames so far, c the sum of what they hold. -/
structure WrI (s : St) (w : WrS) (x : Nat) (r : List (Int × List Int)) : Prop where
  now : s.now w.name = some x
  dat : s.dat x = rowB r
  size : w.size = (rowB r).length
theorem decF_enc {k : Int} {p rest : List Int} (hk : k = 1 ∨ k = 2 ∨ k = 3) (hp : p.length ≤ 1024) : decF (encL k p ++ rest) = (k, p, (12 + p.length : Int), 0) := by
  obtain ⟨S0, S1, S2, S3, hS⟩ : ∃ a b c d, be4 (sumI (headB k p.length)) = [a, b, c, d] := ⟨_, _, _, _, rfl⟩
  obtain ⟨Z0, Z1, Z2, Z3, hZ⟩ : ∃ a b c d, be4 (sumI p) = [a, b, c, d] := ⟨_, _, _, _, rfl⟩
  have hH : headL k p.length = [112, k % 256, (p.length : Int) / 256 % 256, (p.length : Int) % 256, S0, S1, S2, S3] := by
    unfold headL; rw [hS]; rfl
  have hL : encL k p ++ rest = 112 :: k % 256 :: (p.length : Int) / 256 % 256 :: (p.length : Int) % 256 :: S0 :: S1 :: S2 :: S3 :: (p ++ ([Z0, Z1, Z2, Z3] ++ rest)) := by
    unfold encL; rw [hH, hZ]; simp
  have ek : k % 256 = k := by omega
  have en : (p.length : Int) / 256 % 256 * 256 + (p.length : Int) % 256 = p.length := by omega
  have h12 : ¬ (encL k p ++ rest).length < 12 := by rw [List.length_append, encL_len]; omega
  unfold decF
  rw [if_neg h12]
  have g1 : (encL k p ++ rest).getD 1 0 = k := by rw [hL]; simpa using ek
  have g2 : (encL k p ++ rest).getD 2 0 * 256 + (encL k p ++ rest).getD 3 0 = p.length := by rw [hL]; simpa using en
  simp only
  rw [g1, g2]
  have t8 : (encL k p ++ rest).take 8 = headL k p.length := by
    unfold encL
    rw [List.append_assoc, List.append_assoc, List.take_append_of_le_length (by rw [headL_len]; omega), List.take_of_length_le (by rw [headL_len]; omega)]
  have d8 : (encL k p ++ rest).drop 8 = p ++ ([Z0, Z1, Z2, Z3] ++ rest) := by rw [hL]; rfl
  have dn : (encL k p ++ rest).drop (8 + (p.length : Int).toNat) = [Z0, Z1, Z2, Z3] ++ rest := by
    rw [← List.drop_drop, d8, show ((p.length : Int)).toNat = p.length by omega, List.drop_left]
  rw [if_neg, if_neg]
  · rw [d8, show ((p.length : Int)).toNat = p.length by omega, List.take_left]
  · rw [dn, d8, show ((p.length : Int)).toNat = p.length by omega, List.take_left, hZ]
    simp
  · rintro (h | h | h | h)
    · exact h hk
    · omega
    · rw [List.length_append, encL_len] at h; omega
    · exact h t8
end Go.Proofs.YtgigigchjnnonaaGreatDoor
namespace Go.Proofs.YtgigigchjnnonaaGreatDoor
open Go Go.V
theorem nextF_enc {s : St} (h : Peace s) {x : RdS} {y : Nat} (hx : s.now x.name = some y) {k : Int} {p rest : List Int} (hd : (s.dat y).drop x.at'.toNat = encL k p ++ rest) (ha : 0 ≤ x.at') (hk : k = 1 ∨ k = 2 ∨ k = 3) (hp : p.length ≤ 1024) :
    nextF s x = ({ x with at' := x.at' + (12 + p.length) }, k, p, 0) := by
  have hr := read_calm h hx (k := 1036) ha (by decide)
  rw [hd] at hr
  have e : (encL k p ++ rest).take (Int.toNat 1036) = encL k p ++ rest.take (1036 - (12 + p.length)) := by
    rw [List.take_append, encL_len, List.take_of_length_le (by rw [encL_len]; show _ ≤ 1036; omega)]
    rfl
  rw [e] at hr
  unfold nextF
  simp only [hr, decF_enc hk hp]
  simp
theorem read_end {s : St} (h : Peace s) {n : Nm} {y : Nat} (hx : s.now n = some y) {a : Int} (ha : 0 ≤ a) (he : (s.dat y).drop a.toNat = []) (k : Int) (hk : 0 ≤ k) : readS s n a k = ([], 0) := by
  rw [read_calm h hx ha hk, he]
  simp
theorem Rest.unique {s : St} : ∀ {x : RdS} {l l' : List (List Int)} {e e' : Int}, Rest s x l e → Rest s x l' e' → l = l' ∧ e = e' := by
  intro x l l' e e' h
  induction h generalizing l' e' with
  | err h1 => intro k; cases k with
    | err k1 => exact ⟨rfl, rfl⟩
    | done k1 k2 => exact absurd k1 h1
    | more k1 k2 k3 => exact absurd k1 h1
  | done h1 h2 => intro k; cases k with
    | err k1 => exact absurd h1 k1
    | done k1 k2 => exact ⟨rfl, rfl⟩
    | more k1 k2 k3 => rw [h2] at k2; cases k2
  | more h1 h2 h3 ih => intro k; cases k with
    | err k1 => exact absurd h1 k1
    | done k1 k2 => rw [h2] at k2; cases k2
    | more k1 k2 k3 => obtain ⟨a, b⟩ := ih k3; exact ⟨by rw [a], b⟩
theorem rowB_cons (k : Int) (p : List Int) (r : List (Int × List Int)) : rowB ((k, p) :: r) = encL k p ++ rowB r := by simp [rowB]
/-- What follows, to the end mark. -/
theorem rest_file {s : St} (h : Peace s) {y : Nat} : ∀ (l : List (List Int)) (x : RdS), s.now x.name = some y → (∀ p ∈ l, p.length ≤ 1024) → 0 ≤ x.at' → x.over = false →
    (s.dat y).drop x.at'.toNat = rowB (l.map (fun p => ((2 : Int), p)) ++ [(3, be4 (x.data + l.length))]) → Rest s x l 0
  | [], x, hx, hl, ha, ho, hd => by
    simp only [List.map_nil, List.nil_append, rowB_cons, List.length_nil] at hd
    have hd' : (s.dat y).drop x.at'.toNat = encL 3 (be4 x.data) ++ [] := by rw [hd]; simp [rowB]
    have hn := nextF_enc h hx hd' ha (by omega) (by simp [be4])
    have hlen : (s.dat y).length ≤ x.at'.toNat + 16 := by
      have := congrArg List.length hd'
      simp only [List.length_drop, List.append_nil, encL_len] at this
      have : (be4 x.data).length = 4 := rfl
      omega
    have hz := read_end h (n := x.name) hx (a := x.at' + (12 + (be4 x.data).length)) (by omega) (by
      apply List.drop_of_length_le
      have : (be4 x.data).length = 4 := rfl
      omega) 1 (by decide)
    have hN : nextR s x = ({ x with at' := x.at' + (12 + (be4 x.data).length), over := true }, [], false, 0) := by
      unfold nextR
      rw [ho, hn]
      simp only [Bool.false_eq_true, if_false, true_and]
      rw [if_neg (by decide)]
      unfold endF
      simp only [hz]
      simp
    have := @Rest.done s x (by rw [hN]) (by rw [hN])
    exact this
  | p :: l, x, hx, hl, ha, ho, hd => by
    simp only [List.map_cons, List.cons_append, rowB_cons] at hd
    have hn := nextF_enc h hx hd ha (by omega) (hl p List.mem_cons_self)
    have hN : nextR s x = ({ x with at' := x.at' + (12 + p.length), data := x.data + 1 }, p, true, 0) := by
      unfold nextR
      rw [ho, hn]
      simp [ho]
    have ih := rest_file h l { x with at' := x.at' + (12 + p.length), data := x.data + 1 } hx (fun q hq => hl q (List.mem_cons_of_mem _ hq)) (by simp only; omega) ho (by
      simp only
      have e : (x.at' + (12 + (p.length : Int))).toNat = x.at'.toNat + (12 + p.length) := by omega
      rw [e, ← List.drop_drop, hd, List.drop_left' (encL_len _ _)]
      rw [show x.data + ((p :: l).length : Int) = x.data + 1 + l.length by simp only [List.length_cons]; omega])
    have := @Rest.more s x l 0 (by rw [hN]) (by rw [hN]) (by rw [hN]; exact ih)
    rw [hN] at this
    exact this
theorem open_file {s : St} (h : Peace s) {n : Nm} {y : Nat} (hx : s.now n = some y) {hd rest : List Int} (hf : s.dat y = encL 1 hd ++ rest) (hl : hd.length ≤ 1024) : openF s n = ({ newR n with at' := 12 + hd.length }, hd, 0) := by
  have hn := nextF_enc h (x := newR n) hx (k := 1) (p := hd) (rest := rest) (by simpa [newR] using hf) (Int.le_refl 0) (by omega) hl
  unfold openF
  simp only [hn]
  simp [newR]
theorem loads_file {s : St} (h : Peace s) {n : Nm} {y : Nat} (hx : s.now n = some y) {hd : List Int} {l : List (List Int)} (hf : s.dat y = rowB (fileR hd l)) (hl : hd.length ≤ 1024) (hll : ∀ p ∈ l, p.length ≤ 1024)
    {hd' : List Int} {l' : List (List Int)} {e : Int} (hL : Loads s n hd' l' e) : hd' = hd ∧ l' = l ∧ e = 0 := by
  have e1 : s.dat y = encL 1 hd ++ rowB (l.map (fun p => ((2 : Int), p)) ++ [(3, be4 ((0 : Int) + l.length))]) := by
    rw [hf, fileR]; simp [rowB]
  have ho := open_file h hx e1 hl
  have hr := rest_file h l { newR n with at' := 12 + hd.length } hx hll (by simp only; omega) rfl (by
    simp only
    have e : (12 + (hd.length : Int)).toNat = 12 + hd.length := by omega
    rw [e, e1, List.drop_left' (encL_len _ _)]
    rfl)
  unfold Loads at hL
  rw [ho] at hL
  simp only at hL
  rw [if_neg (by simp)] at hL
  obtain ⟨l2, e2, h1, rfl, h3⟩ := hL
  obtain ⟨rfl, rfl⟩ := h1.unique hr
  rw [if_neg (by simp)] at h3
  exact ⟨h3.1, h3.2, rfl⟩
end Go.Proofs.YtgigigchjnnonaaGreatDoor
namespace Go.Proofs.YtgigigchjnnonaaGreatDoor
open Go Go.V



/-- Bytes that stand away from a file system. -/
def Aw (H : Heap) (F : Nat → Prop) (K : Nat) (u : Value) (p : List Int) : Prop := Ints H 5 .u8 u p ∧ (p = [] ∨ ∀ g, blk u = some g → ¬ F g ∧ g < K)
structure AwL (H : Heap) (F : Nat → Prop) (K : Nat) (v : Value) (vs : List Value) (l : List (List Int)) : Prop where
  sl : Sl H 53 1 v vs
  aw : vs = [] ∨ ∀ g, blk v = some g → ¬ F g ∧ g < K
  all : All2 (fun u p => Aw H F K u p) vs l
theorem AwL.lists {H : Heap} {F : Nat → Prop} {K : Nat} {v : Value} {vs : List Value} {l : List (List Int)} (h : AwL H F K v vs l) : Lists H 53 5 v l := ⟨vs, h.sl, h.all.mono fun _ _ h => h.1⟩
theorem Aw.keep {X F F' : Nat → Prop} {H H' : Heap} {K : Nat} {u : Value} {p : List Int} (h : Aw H F K u p) (cx : ChX X F F' H H') (hX : ∀ g, X g → K ≤ g) (hK : K ≤ H.size) : Aw H' F' K u p := by
  refine ⟨cx.ints h.1 (h.2.imp id fun h g hg => ⟨(h g hg).1, fun e => ?_⟩), h.2.imp id fun h g hg => ⟨cx.not (by have := (h g hg).2; omega) (h g hg).1, (h g hg).2⟩⟩
  have := hX g e
  have := (h g hg).2
  omega
theorem AwL.keep {X F F' : Nat → Prop} {H H' : Heap} {K : Nat} {v : Value} {vs : List Value} {l : List (List Int)} (h : AwL H F K v vs l) (cx : ChX X F F' H H') (hX : ∀ g, X g → K ≤ g) (hK : K ≤ H.size) : AwL H' F' K v vs l := by
  refine ⟨?_, h.aw.imp id fun h g hg => ⟨cx.not (by have := (h g hg).2; omega) (h g hg).1, (h g hg).2⟩, h.all.mono fun _ _ h => h.keep cx hX hK⟩
  rcases h.aw with hv | hv
  · have hs := h.sl
    obtain ⟨a, len, cap, rfl, hc, hl, hd⟩ := hs
    refine ⟨a, len, cap, rfl, hc, hl, .inl ?_⟩
    rw [hv] at hl; simp at hl; omega
  · exact cx.sl h.sl fun g hg => ⟨(hv g hg).1, fun e => by have := hX g e; have := (hv g hg).2; omega⟩
/-- A file system in memory where nothing fails. -/
structure Stg (H : Heap) (F : Nat → Prop) (b : Nat) (s : St) : Prop where
  fs : FsH H F b s
  pc : Peace s
  f0 : ¬ F 0
  crc : CrcTab H
theorem rowB_len {r : List (Int × List Int)} (h : ∀ f ∈ r, f.2.length ≤ 1024) : (rowB r).length ≤ r.length * 1036 := by
  induction r with
  | nil => simp [rowB]
  | cons f r ih =>
    have h1 := h f List.mem_cons_self
    have h2 := ih fun y hy => h y (List.mem_cons_of_mem _ hy)
    obtain ⟨k, p⟩ := f
    rw [rowB_cons, List.length_append, encL_len]
    simp only [List.length_cons, Nat.succ_mul] at h1 ⊢
    omega
def rowI (hd : List Int) (l : List (List Int)) : List (Int × List Int) := (1, hd) :: l.map (fun p => (2, p))
theorem rowI_snoc (hd : List Int) (l : List (List Int)) (p : List Int) : rowI hd (l ++ [p]) = rowI hd l ++ [(2, p)] := by simp [rowI]
theorem rowI_len {hd : List Int} {l : List (List Int)} (h1 : hd.length ≤ 1024) (h2 : ∀ x ∈ l, x.length ≤ 1024) : (rowB (rowI hd l)).length ≤ (l.length + 1) * 1036 := by
  have := rowB_len (r := rowI hd l) (by
    intro f hf
    rcases List.mem_cons.1 hf with rfl | hf
    · exact h1
    · obtain ⟨p, hp, rfl⟩ := List.mem_map.1 hf
      exact h2 p hp)
  simpa [rowI] using this
/-- The state behind a Create, and so many frames. -/
def stI (s : St) (n : Nm) (f : Nat) (hd : List Int) (l : List (List Int)) : St :=
  { s with ops := s.ops + (2 + l.length), now := moveD s.now f n, pend := s.pend ++ [(f, n)], held := s.held ++ [f], dat := setF s.dat f (rowB (rowI hd l)), syn := setF s.syn f 0 }
theorem setF_setF {α : Type} (f : Nat → α) (x : Nat) (a b : α) : setF (setF f x a) x b = setF f x b := by
  funext y; unfold setF; split <;> rfl
/-- In the midst of a file. -/
structure InS (s : St) (n : Nm) (f : Nat) (hd : List Int) (l : List (List Int)) : Prop where
  pc : Peace (stI s n f hd l)
  now : (stI s n f hd l).now n = some f
theorem fileR_eq (hd : List Int) (l : List (List Int)) : fileR hd l = rowI hd l ++ [(3, be4 l.length)] := rfl
theorem file_len {hd : List Int} {l : List (List Int)} (h1 : hd.length ≤ 1024) (h2 : ∀ x ∈ l, x.length ≤ 1024) : (rowB (fileR hd l)).length = (rowB (rowI hd l)).length + 16 ∧ (rowB (fileR hd l)).length ≤ (l.length + 1) * 1036 + 16 := by
  have := rowI_len h1 h2
  rw [fileR_eq, rowB_snoc, List.length_append, encL_len]
  have : (be4 (l.length : Int)).length = 4 := rfl
  omega
theorem AwL.form {H : Heap} {F : Nat → Prop} {K : Nat} {v : Value} {vs : List Value} {l : List (List Int)} (h : AwL H F K v vs l) : ∃ a cap, v = .slice a l.length cap := h.lists.form
theorem AwL.at {H : Heap} {F : Nat → Prop} {K : Nat} {a : Option Addr} {len cap : Nat} {vs : List Value} {l : List (List Int)} (h : AwL H F K (.slice a len cap) vs l) {i : Nat} (hi : i < l.length) :
    ∃ b o, a = some ⟨b, o, none⟩ ∧ ∃ u, hget H b (o + i) = some u ∧ Aw H F K u (l.getD i []) := by
  have hl := Sl.length h.sl
  have h2 := h.all.length
  obtain ⟨b, o, rfl⟩ := Sl.at h.sl (by omega)
  obtain ⟨u, hu, ha⟩ := h.all.get (List.getElem?_eq_getElem hi)
  refine ⟨b, o, rfl, u, ?_, ?_⟩
  · rw [Sl.get h.sl (by omega)]; exact hu
  · rw [List.getD_eq_getElem?_getD, List.getElem?_eq_getElem hi]; exact ha
theorem take_getD {α : Type} {l : List α} {i : Nat} (hi : i < l.length) (d : α) : l.take (i + 1) = l.take i ++ [l.getD i d] := by
  rw [List.take_succ_eq_append_getElem hi, List.getD_eq_getElem?_getD, List.getElem?_eq_getElem hi]; rfl
end Go.Proofs.YtgigigchjnnonaaGreatDoor
