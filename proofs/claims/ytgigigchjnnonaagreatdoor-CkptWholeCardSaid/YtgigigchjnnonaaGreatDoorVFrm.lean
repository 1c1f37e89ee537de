/- Frames: sums and heads. -/
import Derived.Test.YtgigigchjnnonaaGreatDoorVCrc
import Derived.Test.YtgigigchjnnonaaGreatDoorVByt
set_option linter.unusedSimpArgs false
set_option linter.unusedVariables false
set_option maxRecDepth 20000
namespace Go.V
open Go
def be4 (n : Int) : List Int := [n / 16777216 % 256, n / 65536 % 256, n / 256 % 256, n % 256]
theorem be4_byt (n : Int) : Byt (be4 n) := by intro x hx; simp [be4] at hx; omega
/-- The sum as a number. -/
def sumI (bs : List Int) : Int := wI (crcW 0#32 bs)
theorem sumI_lt (bs : List Int) : 0 ≤ sumI bs ∧ sumI bs < 4294967296 := wI_lt _
def headB (k n : Int) : List Int := [112, k % 256, n / 256 % 256, n % 256]
def headL (k n : Int) : List Int := headB k n ++ be4 (sumI (headB k n))
def encL (k : Int) (p : List Int) : List Int := headL k p.length ++ p ++ be4 (sumI p)
theorem headL_len (k n : Int) : (headL k n).length = 8 := rfl
theorem encL_len (k : Int) (p : List Int) : (encL k p).length = 12 + p.length := by unfold encL; simp [headL_len, be4]; omega
theorem u32_shr {X : Int} (h : 0 ≤ X) : ishr .u32 X 24 = X / 16777216 ∧ ishr .u32 X 16 = X / 65536 ∧ ishr .u32 X 8 = X / 256 := by
  have e : ∀ (k : Int) (m : Nat), k = m → m ≤ 32 → ishr .u32 X k = X / 2 ^ m := fun k m hk hm => by
    have h1 : ishr .u32 X k = X.fdiv (2 ^ (min k.toNat 32)) := rfl
    rw [h1, hk, Int.toNat_natCast, Nat.min_eq_left hm, Int.fdiv_eq_ediv_of_nonneg _ (Int.pow_nonneg (by decide))]
  exact ⟨e 24 24 rfl (by decide), e 16 16 rfl (by decide), e 8 8 rfl (by decide)⟩
theorem i64_shr8 {X : Int} : ishr .i64 X 8 = X / 256 := by
  have h1 : ishr .i64 X 8 = X.fdiv (2 ^ 8) := rfl
  rw [h1, Int.fdiv_eq_ediv_of_nonneg _ (by decide)]
  rfl
/-- copy, the cells that are filled known. -/
theorem copy_raw {P : Program} {H : Heap} {t t' ty e : TypeId} {by' : Nat} {z : Value} (ht : tyOf P t = some ⟨.sl e, t', ty, z⟩) {k : V.K} {ze : Value} (he : tyOf P e = some ⟨k, 1, by', ze⟩)
    {g o len cap m : Nat} {y : Value} {ys : List Value} (hy : Sl H e 1 y ys) (h1 : ∀ u ∈ ys, u.oneCell' = true) (hyl : ys.length = m) (hmn : m ≤ len) (hcan : hcan H g o ys.length) :
    RunS P (sCopy #[t, t] #[.slice (some ⟨g, o, none⟩) len cap, y]) H (fun u H' => u = .int .i64 m ∧ H' = hput H g o ys) := by
  unfold sCopy
  intro w hw
  subst hw
  obtain ⟨⟨d, hd, hk⟩, _⟩ := tyOf_ok P t _ ht
  obtain ⟨_, inf, hi, hi1, hi2, hi3⟩ := tyOf_ok P e _ he
  rw [V.K.of_sl hk] at hd
  obtain ⟨a, m', c, rfl, hmc, hl, hcell⟩ := hy
  have hm' : m' = m := by omega
  subst hm'
  have hin : inf.size = 1 := hi1
  have hload : (Builtin.firstCells 1 m' (.slice a m' c)).run P w = .ok ys.toArray w := by
    rcases hcell with h0 | ⟨b, o', c', _, fr, rfl, hbb, hg⟩
    · subst h0
      have : ys = [] := List.eq_nil_of_length_eq_zero (by simpa using hl)
      subst this
      cases a with
      | none => simp [Builtin.firstCells]
      | some a => simp [Builtin.firstCells, loadCells, loadCellsFrom]
    · simp only [Builtin.firstCells]
      refine run_loadCells_h (hgets_of hl fun j hj => ?_)
      simp only [hget, hbb]
      exact hg j hj
  have hst := run_storeCells_put (P := P) (w := w) hcan h1
  refine ⟨.int .i64 (m' : Int), { w with heap := hput w.heap g o ys }, ?_, ⟨rfl, rfl, rfl, trivial⟩, rfl, rfl⟩
  simp [Builtin.copy_, run_underlying hd, sizeOf, typeInfo, hi, hin, Builtin.lenOf, Nat.min_eq_left hmn, hload, hst, goInt]
theorem hput_push8 {H : Heap} {z0 z1 z2 z3 z4 z5 z6 z7 a0 a1 a2 a3 a4 a5 a6 a7 : Value} {e : TypeId} : hput (H.push (.cells #[z0, z1, z2, z3, z4, z5, z6, z7] e)) H.size 0 [a0, a1, a2, a3, a4, a5, a6, a7] = H.push (.cells #[a0, a1, a2, a3, a4, a5, a6, a7] e) := hput_push rfl
theorem hput_push4 {H : Heap} {z0 z1 z2 z3 a0 a1 a2 a3 : Value} {e : TypeId} : hput (H.push (.cells #[z0, z1, z2, z3] e)) H.size 0 [a0, a1, a2, a3] = H.push (.cells #[a0, a1, a2, a3] e) := hput_push rfl
theorem Ext.old {H H' : Heap} (x : Ext H H') {b : Nat} {o : Obj} (h : H[b]? = some o) : H'[b]? = some o := by
  have hb : b < H.size := by
    rcases Nat.lt_or_ge b H.size with hb | hb
    · exact hb
    · rw [Array.getElem?_eq_none hb] at h; cases h
  rw [x.get b hb]; exact h
theorem Ext.pushr {H H' : Heap} (x : Ext H H') {o : Obj} : Ext H (H'.push o) := Upto.push x x.size o
theorem hput_enc {K : Heap} {A B : Nat} {hs ss : List Value} {c8 c4 : Array Value} {e8 e4 : TypeId} (hl8 : hs.length = c8.size) (hl4 : ss.length = c4.size) (hne : e8 ≠ e4)
    (kA : K[A]? = some (.cells c8 e8)) (kB : K[B]? = some (.cells c4 e4)) :
    hcan K A 0 hs.length ∧ hcan (hput K A 0 hs) B 0 ss.length ∧ (hput (hput K A 0 hs) B 0 ss)[A]? = some (.cells hs.toArray e8) ∧ (hput (hput K A 0 hs) B 0 ss)[B]? = some (.cells ss.toArray e4) := by
  have hAB : A ≠ B := by rintro rfl; rw [kA] at kB; simp only [Option.some.injEq, Obj.cells.injEq] at kB; exact hne kB.2.1
  have kB' : (hput K A 0 hs)[B]? = some (.cells c4 e4) := (hput_other K A 0 hs (Ne.symm hAB)).trans kB
  have e : ∀ (c : Array Value) (vs : List Value), vs.length = c.size → cput c 0 vs = vs.toArray := fun c vs h => by
    apply Array.ext_getElem?
    intro k
    by_cases hk : k < vs.length
    · have := cput_get_in (c := c) (o := 0) (vs := vs) (j := k) (by omega) hk
      simp only [Nat.zero_add] at this
      rw [this, List.getElem?_toArray]
    · rw [Array.getElem?_eq_none (by rw [cput_size (by omega)]; omega), Array.getElem?_eq_none (by simp; omega)]
  refine ⟨hcan_of kA (by omega), hcan_of kB' (by omega), ?_, ?_⟩
  · rw [hput_other _ _ _ _ hAB, hput_same kA, e _ _ hl8]
  · rw [hput_same kB', e _ _ hl4]
theorem encGo {P : Program} {s : Sem Value} {H6 K : Heap} {A B m8 m4 : Nat} {hs ss : List Value} {c8 c4 : Array Value} {e8 e4 : TypeId} {C : Value → Heap → Prop} (x : Ext H6 K) (hA : H6.size ≤ A) (hB : H6.size ≤ B)
    (kA : K[A]? = some (.cells c8 e8)) (kB : K[B]? = some (.cells c4 e4)) (h1 : hs.all Value.oneCell' = true) (h2 : ss.all Value.oneCell' = true) (hm8 : hs.length = m8) (hm4 : ss.length = m4) (hl8 : hs.length = c8.size) (hl4 : ss.length = c4.size) (hne : e8 ≠ e4)
    (go : ∀ K2, H6.size ≤ B → Ext H6 K2 → K2[A]? = some (.cells hs.toArray e8) → K2[B]? = some (.cells ss.toArray e4) → @RunI P s K2 ⟨C⟩) :
    hs.all Value.oneCell' = true ∧ hcan K A 0 m8 ∧ ss.all Value.oneCell' = true ∧ hcan (hput K A 0 hs) B 0 m4 ∧ @RunI P s (hput (hput K A 0 hs) B 0 ss) ⟨C⟩ := by
  subst hm8 hm4
  obtain ⟨q1, q2, q3, q4⟩ := hput_enc hl8 hl4 hne kA kB
  exact ⟨h1, q1, h2, q2, go _ hB (Upto.hput (Upto.hput x hA) hB) q3 q4⟩
theorem Own.raw {H : Heap} {B g : Nat} {e : TypeId} {vs : List Value} {n : Nat} (h : H[g]? = some (.cells vs.toArray e)) (hn : vs.length = n) (hB : B ≤ g) (hl : n ≤ maxLen) : V.Own H B e 1 (.slice (some ⟨g, 0, none⟩) n n) vs := by
  refine .inr ⟨g, n, n, _, rfl, hB, h, Nat.le_refl _, hl, by simpa using hn, by simpa using hn, ?_⟩
  simp [← hn]
theorem zrow_rep (k : IntKind) (n : Nat) : zrow (.int k 0) n = (List.replicate n (.int k 0)).toArray := by
  rw [← zrow_one (z := .int k 0) rfl]
theorem enc1 {hs ys : List Value} {z : Value} {n : Nat} (h8 : hs.length = 8) (hy : ys.length = n) :
    (hs ++ List.replicate (12 + n - 8) z).take 8 ++ ys ++ (hs ++ List.replicate (12 + n - 8) z).drop (8 + ys.length) = hs ++ ys ++ List.replicate 4 z := by
  rw [List.take_append_of_le_length (by omega), List.take_of_length_le (by omega), List.drop_append, List.drop_of_length_le (by omega), List.nil_append, List.drop_replicate, h8, hy, show 12 + n - 8 - (8 + n - 8) = 4 by omega]
theorem enc2 {hs ys ss : List Value} {z : Value} {n : Nat} (h8 : hs.length = 8) (hy : ys.length = n) (h4 : ss.length = 4) :
    (hs ++ ys ++ List.replicate 4 z).take (8 + n) ++ ss ++ (hs ++ ys ++ List.replicate 4 z).drop (8 + n + ss.length) = hs ++ ys ++ ss := by
  rw [List.take_append_of_le_length (by simp; omega), List.take_of_length_le (by simp; omega), List.drop_of_length_le (by simp; omega), List.append_nil]
theorem raw_put {H : Heap} {g o : Nat} {l ys : List Value} {e : TypeId} (h : H[g]? = some (.cells l.toArray e (0, 0))) (hf : o + ys.length ≤ l.length) :
    hcan H g o ys.length ∧ (hput H g o ys)[g]? = some (.cells (l.take o ++ ys ++ l.drop (o + ys.length)).toArray e (0, 0)) := by
  refine ⟨hcan_of h (by simpa using hf), ?_⟩
  rw [hput_same h]
  congr 2
end Go.V
namespace Go.Proofs.YtgigigchjnnonaaGreatDoor
open Go Go.V
theorem hgets_cells4 {H : Heap} {b : Nat} {a c d f : Value} {e : TypeId} {fr : Nat × Nat} (h : H[b]? = some (.cells #[a, c, d, f] e fr)) : hgets H b 0 4 = some [a, c, d, f] := hgets_of rfl fun j hj => by
  rw [Nat.zero_add, hget_cells h]
  match j, hj with
  | 0, _ => rfl
  | 1, _ => rfl
  | 2, _ => rfl
  | 3, _ => rfl
theorem hgets_cells8 {H : Heap} {b : Nat} {vs : Array Value} (hs : vs.size = 8) {e : TypeId} {fr : Nat × Nat} (h : H[b]? = some (.cells vs e fr)) : hgets H b 0 8 = some vs.toList := hgets_of (by simp [hs]) fun j hj => by
  rw [Nat.zero_add, hget_cells h, Array.getElem?_toList]
theorem F304 (k : Int) (H : Heap) : Fun Tryz.prog 304 #[.int .i64 k] H (fun r H' => r = .bool (decide (k = 1 ∨ k = 2 ∨ k = 3)) ∧ H = H') := by
  refine fun_of mixed (args := [_]) Tryz.func304 Tryz.ntmps304 b304 r304 rfl ?_
  by_cases c1 : k = 1
  · simp only [go_sem, ↓reduceIte, Nat.reduceEqDiff, Nat.reduceLeDiff, Nat.reduceAdd, Nat.reduceMul, Nat.reduceSub, Nat.reduceBEq, Nat.reduceGT, Nat.reduceLT, Int.reduceLE, Int.reduceLT, Int.reduceNeg, reduceCtorEq, c1, true_or, decide_true]
  by_cases c2 : k = 2
  · subst c2; simp only [go_sem, ↓reduceIte, Nat.reduceEqDiff, Nat.reduceLeDiff, Nat.reduceAdd, Nat.reduceMul, Nat.reduceSub, Nat.reduceBEq, Nat.reduceGT, Nat.reduceLT, Int.reduceLE, Int.reduceLT, Int.reduceNeg, reduceCtorEq, Int.reduceEq, true_or, or_true, decide_true]
  by_cases c3 : k = 3
  · subst c3; simp only [go_sem, ↓reduceIte, Nat.reduceEqDiff, Nat.reduceLeDiff, Nat.reduceAdd, Nat.reduceMul, Nat.reduceSub, Nat.reduceBEq, Nat.reduceGT, Nat.reduceLT, Int.reduceLE, Int.reduceLT, Int.reduceNeg, reduceCtorEq, Int.reduceEq, true_or, or_true, decide_true]
  simp only [go_sem, ↓reduceIte, Nat.reduceEqDiff, Nat.reduceLeDiff, Nat.reduceAdd, Nat.reduceMul, Nat.reduceSub, Nat.reduceBEq, Nat.reduceGT, Nat.reduceLT, Int.reduceLE, Int.reduceLT, Int.reduceNeg, reduceCtorEq, c1, c2, c3, or_self, decide_false]
theorem F306 {v : Value} {bs : List Int} {H : Heap} (hv : Ints H 5 .u8 v bs) (hb : Byt bs) (ht : CrcTab H) (hl : bs.length < 9223372036854775807) :
    Fun Tryz.prog 306 #[v] H (fun r H' => r = .agg ((be4 (sumI bs)).map (.int .u8)).toArray ∧ Ext H H') := by
  refine fun_of mixed (args := [_]) Tryz.func306 Tryz.ntmps306 b306 r306 rfl ?_
  simp only [go_sem, ↓reduceIte, Nat.reduceEqDiff, Nat.reduceLeDiff, Nat.reduceAdd, Nat.reduceMul, Nat.reduceSub, Nat.reduceBEq, Nat.reduceGT, Nat.reduceLT, Int.reduceLE, Int.reduceLT, Int.reduceNeg, reduceCtorEq]
  have x0 : Ext H (H.push (.cells #[.int .u8 0, .int .u8 0, .int .u8 0, .int .u8 0] 352)) := Ext.push _
  refine FunI.by (F323 (Ints.ext hv x0) hb (ht.ext x0) hl) ?_
  rintro _ _ ⟨rfl, rfl⟩
  have hlt := sumI_lt bs
  obtain ⟨X, hX⟩ : ∃ X, X = sumI bs := ⟨_, rfl⟩
  have hX' : wI (crcW 0#32 bs) = X := hX.symm
  rw [← hX] at hlt ⊢
  rw [hX']
  clear hX hX'
  obtain ⟨s1, s2, s3⟩ := u32_shr hlt.1
  have y0 : (H.push (.cells #[.int .u8 0, .int .u8 0, .int .u8 0, .int .u8 0] 352))[H.size]? = some (.cells #[.int .u8 0, .int .u8 0, .int .u8 0, .int .u8 0] 352) := push_new
  have hcn : hcan (H.push (.cells #[.int .u8 0, .int .u8 0, .int .u8 0, .int .u8 0] 352)) H.size 0 4 := hcan_of y0 (by simp)
  simp only [go_sem, ↓reduceIte, Nat.reduceEqDiff, Nat.reduceLeDiff, Nat.reduceAdd, Nat.reduceMul, Nat.reduceSub, Nat.reduceBEq, Nat.reduceGT, Nat.reduceLT, Int.reduceLE, Int.reduceLT, Int.reduceNeg, reduceCtorEq, s1, s2, s3, wu8, hcn]
  refine ⟨rfl, ?_⟩
  have ky : (hput (H.push (.cells #[.int .u8 0, .int .u8 0, .int .u8 0, .int .u8 0] 352)) H.size 0 [.int .u8 (X / 16777216 % 256), .int .u8 (X / 65536 % 256), .int .u8 (X / 256 % 256), .int .u8 (X % 256)])[H.size]? =
      some (.cells #[.int .u8 (X / 16777216 % 256), .int .u8 (X / 65536 % 256), .int .u8 (X / 256 % 256), .int .u8 (X % 256)] 352) := by rw [hput_same y0]; rfl
  have kx : Ext H (hput (H.push (.cells #[.int .u8 0, .int .u8 0, .int .u8 0, .int .u8 0] 352)) H.size 0 [.int .u8 (X / 16777216 % 256), .int .u8 (X / 65536 % 256), .int .u8 (X / 256 % 256), .int .u8 (X % 256)]) := x0.hput (Nat.le_refl _)
  have kg := hgets_cells4 ky
  rw [loadV_K]
  simp only [go_sem, ↓reduceIte, Nat.reduceEqDiff, Nat.reduceLeDiff, Nat.reduceAdd, Nat.reduceMul, Nat.reduceSub, Nat.reduceBEq, Nat.reduceGT, Nat.reduceLT, Int.reduceLE, Int.reduceLT, Int.reduceNeg, reduceCtorEq, kg]
  exact ⟨rfl, kx⟩
set_option maxHeartbeats 800000 in
theorem F305 (k n : Int) {H : Heap} (hk : 0 ≤ k ∧ k < 256) (hn : 0 ≤ n ∧ n < 65536) (ht : CrcTab H) :
    Fun Tryz.prog 305 #[.int .i64 k, .int .i64 n] H (fun r H' => r = .agg ((headL k n).map (.int .u8)).toArray ∧ Ext H H') := by
  refine fun_of mixed (args := [_, _]) Tryz.func305 Tryz.ntmps305 b305 r305 rfl ?_
  have hk' : k % 256 = k := by omega
  simp only [go_sem, ↓reduceIte, Nat.reduceEqDiff, Nat.reduceLeDiff, Nat.reduceAdd, Nat.reduceMul, Nat.reduceSub, Nat.reduceBEq, Nat.reduceGT, Nat.reduceLT, Int.reduceLE, Int.reduceLT, Int.reduceNeg, reduceCtorEq, wu8, i64_shr8]
  refine ⟨rfl, hcan_of push_new (by simp), by omega, ?_⟩
  rw [hput_push8]
  have x0 : Ext H ((H.push (.cells #[.int .u8 0, .int .u8 0, .int .u8 0, .int .u8 0, .int .u8 0, .int .u8 0, .int .u8 0, .int .u8 0] 350)).push (.cells #[.int .u8 112, .int .u8 (k % 256), .int .u8 (n / 256 % 256), .int .u8 (n % 256), .int .u8 0, .int .u8 0, .int .u8 0, .int .u8 0] 350)) := Upto.push (Ext.push _) (by simp) _
  have k0 : ((H.push (.cells #[.int .u8 0, .int .u8 0, .int .u8 0, .int .u8 0, .int .u8 0, .int .u8 0, .int .u8 0, .int .u8 0] 350)).push (.cells #[.int .u8 112, .int .u8 (k % 256), .int .u8 (n / 256 % 256), .int .u8 (n % 256), .int .u8 0, .int .u8 0, .int .u8 0, .int .u8 0] 350))[H.size]? = some (.cells #[.int .u8 0, .int .u8 0, .int .u8 0, .int .u8 0, .int .u8 0, .int .u8 0, .int .u8 0, .int .u8 0] 350) := by rw [push_old (by simp)]; exact push_new
  have hs1 : (H.push (.cells #[.int .u8 0, .int .u8 0, .int .u8 0, .int .u8 0, .int .u8 0, .int .u8 0, .int .u8 0, .int .u8 0] 350)).size = H.size + 1 := by simp
  have k1 : ((H.push (.cells #[.int .u8 0, .int .u8 0, .int .u8 0, .int .u8 0, .int .u8 0, .int .u8 0, .int .u8 0, .int .u8 0] 350)).push (.cells #[.int .u8 112, .int .u8 (k % 256), .int .u8 (n / 256 % 256), .int .u8 (n % 256), .int .u8 0, .int .u8 0, .int .u8 0, .int .u8 0] 350))[H.size + 1]? = some (.cells #[.int .u8 112, .int .u8 (k % 256), .int .u8 (n / 256 % 256), .int .u8 (n % 256), .int .u8 0, .int .u8 0, .int .u8 0, .int .u8 0] 350) := by rw [← hs1]; exact push_new
  have hs2 : ((H.push (.cells #[.int .u8 0, .int .u8 0, .int .u8 0, .int .u8 0, .int .u8 0, .int .u8 0, .int .u8 0, .int .u8 0] 350)).push (.cells #[.int .u8 112, .int .u8 (k % 256), .int .u8 (n / 256 % 256), .int .u8 (n % 256), .int .u8 0, .int .u8 0, .int .u8 0, .int .u8 0] 350)).size = H.size + 2 := by simp
  rw [hs1]
  obtain ⟨K, hK⟩ : ∃ K, K = (H.push (.cells #[.int .u8 0, .int .u8 0, .int .u8 0, .int .u8 0, .int .u8 0, .int .u8 0, .int .u8 0, .int .u8 0] 350)).push (.cells #[.int .u8 112, .int .u8 (k % 256), .int .u8 (n / 256 % 256), .int .u8 (n % 256), .int .u8 0, .int .u8 0, .int .u8 0, .int .u8 0] 350) := ⟨_, rfl⟩
  rw [← hK] at x0 k0 k1 hs2
  rw [← hK]
  clear hK hs1
  have hbyt : Byt (headB k n) := by intro x hx; simp [headB] at hx; omega
  have hi : Ints K 5 .u8 (.slice (some ⟨H.size + 1, 0, none⟩) (Int.toNat 4) 8) (headB k n) := Sl.of k1 (by decide) rfl fun i hi => by
    have hi4 : i < 4 := hi
    match i, hi4 with
    | 0, _ => rfl
    | 1, _ => rfl
    | 2, _ => rfl
    | 3, _ => rfl
  refine FunI.by (F306 hi hbyt (ht.ext x0) (by show 4 < _; omega)) ?_
  rintro _ K2 ⟨rfl, x2⟩
  have hnp : newP (H.push (.cells #[.int .u8 0, .int .u8 0, .int .u8 0, .int .u8 0, .int .u8 0, .int .u8 0, .int .u8 0, .int .u8 0] 350)) = .pointer (some ⟨H.size + 1, 0, none⟩) := by simp [newP]
  rw [hnp]
  obtain ⟨a, b, c, d, hb4⟩ : ∃ a b c d, be4 (sumI (headB k n)) = [a, b, c, d] := ⟨_, _, _, _, rfl⟩
  unfold headL
  rw [hb4]
  have z1 := x2.old k1
  have z0 := x2.old k0
  have z2 := x2.size
  have w1 : Ext H K2 := Upto.ext x0 x0.size x2
  simp only [go_sem, ↓reduceIte, Nat.reduceEqDiff, Nat.reduceLeDiff, Nat.reduceAdd, Nat.reduceMul, Nat.reduceSub, Nat.reduceBEq, Nat.reduceGT, Nat.reduceLT, Int.reduceLE, Int.reduceLT, Int.reduceNeg, reduceCtorEq, List.map]
  refine ⟨rfl, hcan_of push_new (by simp), by decide, ?_⟩
  rw [hput_push4]
  have j1 := (Ext.push (.cells #[.int .u8 a, .int .u8 b, .int .u8 c, .int .u8 d] 352)).old z1
  have j2 : (K2.push (.cells #[.int .u8 a, .int .u8 b, .int .u8 c, .int .u8 d] 352))[K2.size]? = some (.cells #[.int .u8 a, .int .u8 b, .int .u8 c, .int .u8 d] 352) := push_new
  have w3 : Ext H (K2.push (.cells #[.int .u8 a, .int .u8 b, .int .u8 c, .int .u8 d] 352)) := Upto.push w1 w1.size _
  have j0 := (Ext.push (.cells #[.int .u8 a, .int .u8 b, .int .u8 c, .int .u8 d] 352)).old z0
  obtain ⟨K3, hK3⟩ : ∃ K3, K3 = K2.push (.cells #[.int .u8 a, .int .u8 b, .int .u8 c, .int .u8 d] 352) := ⟨_, rfl⟩
  rw [← hK3] at j0 j1 j2 w3 ⊢
  clear hK3
  have hsl : Sl K3 5 1 (.slice (some ⟨K2.size, 0, none⟩) 4 4) [.int .u8 a, .int .u8 b, .int .u8 c, .int .u8 d] := Sl.of j2 (by decide) rfl fun i hi => by
    match i, hi with
    | 0, _ => rfl
    | 1, _ => rfl
    | 2, _ => rfl
    | 3, _ => rfl
  obtain ⟨r1, r2⟩ := raw_put (l := [.int .u8 112, .int .u8 (k % 256), .int .u8 (n / 256 % 256), .int .u8 (n % 256), .int .u8 0, .int .u8 0, .int .u8 0, .int .u8 0]) (o := 4) (ys := [.int .u8 a, .int .u8 b, .int .u8 c, .int .u8 d]) j1 (by simp)
  refine RunI.by (copy_raw ty53 ty5 hsl (by simp [Value.oneCell']) (m := 4) rfl (by decide) r1) ?_
  rintro _ K4 ⟨rfl, rfl⟩
  have w4 : Ext H (hput K3 (H.size + 1) 4 [.int .u8 a, .int .u8 b, .int .u8 c, .int .u8 d]) := Upto.hput w3 (by omega)
  have r0 : (hput K3 (H.size + 1) 4 [.int .u8 a, .int .u8 b, .int .u8 c, .int .u8 d])[H.size]? = _ := (hput_other K3 (H.size + 1) 4 _ (by omega)).trans j0
  have e8 : (Int.toNat 4) = 4 := rfl
  rw [e8]
  obtain ⟨K4, hK4⟩ : ∃ K4, K4 = hput K3 (H.size + 1) 4 [.int .u8 a, .int .u8 b, .int .u8 c, .int .u8 d] := ⟨_, rfl⟩
  rw [← hK4] at r0 r2 w4 ⊢
  clear hK4
  have g1 := hgets_cells8 (by simp) r2
  have g0 : hcan K4 H.size 0 8 := hcan_of r0 (by simp)
  simp only [List.take_succ_cons, List.take_zero, List.cons_append, List.nil_append, List.length_cons, List.length_nil, Nat.reduceAdd, List.drop_succ_cons, List.drop_nil] at g1
  have r5 : (hput K4 H.size 0 [.int .u8 112, .int .u8 (k % 256), .int .u8 (n / 256 % 256), .int .u8 (n % 256), .int .u8 a, .int .u8 b, .int .u8 c, .int .u8 d])[H.size]? =
      some (.cells #[.int .u8 112, .int .u8 (k % 256), .int .u8 (n / 256 % 256), .int .u8 (n % 256), .int .u8 a, .int .u8 b, .int .u8 c, .int .u8 d] 350) := by rw [hput_same r0]; rfl
  have w5 : Ext H (hput K4 H.size 0 [.int .u8 112, .int .u8 (k % 256), .int .u8 (n / 256 % 256), .int .u8 (n % 256), .int .u8 a, .int .u8 b, .int .u8 c, .int .u8 d]) := Upto.hput w4 (Nat.le_refl _)
  have g5 := hgets_cells8 rfl r5
  simp only [go_sem, ↓reduceIte, Nat.reduceEqDiff, Nat.reduceLeDiff, Nat.reduceAdd, Nat.reduceMul, Nat.reduceSub, Nat.reduceBEq, Nat.reduceGT, Nat.reduceLT, Int.reduceLE, Int.reduceLT, Int.reduceNeg, reduceCtorEq, g1, g0]
  refine ⟨rfl, ?_⟩
  rw [loadV_K]
  simp only [go_sem, ↓reduceIte, Nat.reduceEqDiff, Nat.reduceLeDiff, Nat.reduceAdd, Nat.reduceMul, Nat.reduceSub, Nat.reduceBEq, Nat.reduceGT, Nat.reduceLT, Int.reduceLE, Int.reduceLT, Int.reduceNeg, reduceCtorEq, g5]
  exact ⟨rfl, w5⟩
end Go.Proofs.YtgigigchjnnonaaGreatDoor
namespace Go.Proofs.YtgigigchjnnonaaGreatDoor
open Go Go.V
def encE (k : Int) (p : List Int) : Int := if ¬ (k = 1 ∨ k = 2 ∨ k = 3) then 30 else if 1024 < p.length then 31 else 0
def encO (k : Int) (p : List Int) : List Int := if ¬ (k = 1 ∨ k = 2 ∨ k = 3) then [] else if 1024 < p.length then [] else encL k p
set_option maxHeartbeats 800000 in
theorem F272 {k : Int} {v : Value} {p : List Int} {H : Heap} (hv : Ints H 5 .u8 v p) (hb : Byt p) (ht : CrcTab H) (hl : p.length < 9223372036854775807) :
    Fun Tryz.prog 272 #[.agg #[.int .i64 k, v]] H (fun r H' => ∃ u, r = .tuple #[u, .int .i64 (encE k p)] ∧ V.Own H' H.size 5 1 u ((encO k p).map (.int .u8)) ∧ Ext H H') := by
  obtain ⟨a, cap, rfl⟩ := hv.form
  refine fun_of mixed (args := [_]) Tryz.func272 Tryz.ntmps272 b272 r272 rfl ?_
  simp only [go_sem, ↓reduceIte, Nat.reduceEqDiff, Nat.reduceLeDiff, Nat.reduceAdd, Nat.reduceMul, Nat.reduceSub, Nat.reduceBEq, Nat.reduceGT, Nat.reduceLT, Int.reduceLE, Int.reduceLT, Int.reduceNeg, reduceCtorEq]
  refine FunI.by (F304 k _) ?_
  rintro _ _ ⟨rfl, rfl⟩
  by_cases hk : ¬ (k = 1 ∨ k = 2 ∨ k = 3)
  · simp only [go_sem, ↓reduceIte, Nat.reduceEqDiff, Nat.reduceLeDiff, Nat.reduceAdd, Nat.reduceMul, Nat.reduceSub, Nat.reduceBEq, Nat.reduceGT, Nat.reduceLT, Int.reduceLE, Int.reduceLT, Int.reduceNeg, reduceCtorEq, encE, encO, hk, decide_false, not_false_eq_true, if_true]
    exact ⟨_, rfl, .inl ⟨rfl, rfl⟩, Ext.push _⟩
  have hk := Classical.not_not.1 hk
  by_cases hn : 1024 < p.length
  · have hn2 : (1024 : Int) < (p.length : Int) := by omega
    simp only [go_sem, ↓reduceIte, Nat.reduceEqDiff, Nat.reduceLeDiff, Nat.reduceAdd, Nat.reduceMul, Nat.reduceSub, Nat.reduceBEq, Nat.reduceGT, Nat.reduceLT, Int.reduceLE, Int.reduceLT, Int.reduceNeg, reduceCtorEq, encE, encO, hk, hn, hn2, decide_true]
    exact ⟨_, rfl, .inl ⟨rfl, rfl⟩, Ext.push _⟩
  have hn2 : ¬ (1024 : Int) < (p.length : Int) := by omega
  have e1 : IntKind.i64.wrap (8 + (p.length : Int)) = 8 + (p.length : Int) := w64_id (by omega) (by omega)
  have e2 : IntKind.i64.wrap (8 + (p.length : Int) + 4) = 8 + (p.length : Int) + 4 := w64_id (by omega) (by omega)
  have e3 : (8 + (p.length : Int) + 4).toNat = 12 + p.length := by omega
  have x6 : Ext H ((H.push (.cells #[.int .i64 k, .slice a p.length cap] 215)).push (.cells (zrow (.int .u8 0) (8 + (p.length : Int) + 4).toNat) 5)) := Upto.push (Ext.push _) (by simp) _
  have b6 : ((H.push (.cells #[.int .i64 k, .slice a p.length cap] 215)).push (.cells (zrow (.int .u8 0) (8 + (p.length : Int) + 4).toNat) 5))[H.size]? = some (.cells #[.int .i64 k, .slice a p.length cap] 215) := by rw [push_old (by simp)]; exact push_new
  have z6 : ((H.push (.cells #[.int .i64 k, .slice a p.length cap] 215)).push (.cells (zrow (.int .u8 0) (8 + (p.length : Int) + 4).toNat) 5))[H.size + 1]? = some (.cells (zrow (.int .u8 0) (8 + (p.length : Int) + 4).toNat) 5) := by
    have := push_new (H := H.push (.cells #[.int .i64 k, .slice a p.length cap] 215)) (x := .cells (zrow (.int .u8 0) (8 + (p.length : Int) + 4).toNat) 5)
    simpa using this
  have s6 : ((H.push (.cells #[.int .i64 k, .slice a p.length cap] 215)).push (.cells (zrow (.int .u8 0) (8 + (p.length : Int) + 4).toNat) 5)).size = H.size + 2 := by simp
  have g0 : hget ((H.push (.cells #[.int .i64 k, .slice a p.length cap] 215)).push (.cells (zrow (.int .u8 0) (8 + (p.length : Int) + 4).toNat) 5)) H.size 0 = some (.int .i64 k) := hget_cells b6
  have g1 : hget ((H.push (.cells #[.int .i64 k, .slice a p.length cap] 215)).push (.cells (zrow (.int .u8 0) (8 + (p.length : Int) + 4).toNat) 5)) H.size 1 = some (.slice a p.length cap) := hget_cells b6
  simp only [go_sem, ↓reduceIte, Nat.reduceEqDiff, Nat.reduceLeDiff, Nat.reduceAdd, Nat.reduceMul, Nat.reduceSub, Nat.reduceBEq, Nat.reduceGT, Nat.reduceLT, Int.reduceLE, Int.reduceLT, Int.reduceNeg, reduceCtorEq, encE, encO, hk, hn, decide_true, hn2, e1, e2, Array.size_push, g0, g1, ext_push, ext_refl, true_and]
  refine ⟨by omega, Int.le_refl _, by omega, by omega, ?_⟩
  obtain ⟨H6, h6⟩ : ∃ H6, H6 = (H.push (.cells #[.int .i64 k, .slice a p.length cap] 215)).push (.cells (zrow (.int .u8 0) (8 + (p.length : Int) + 4).toNat) 5) := ⟨_, rfl⟩
  rw [← h6] at x6 b6 z6 s6 ⊢
  clear g0 g1
  rw [e3, zrow_rep] at z6
  have g0 : hget H6 H.size 0 = some (.int .i64 k) := hget_cells b6
  have g1 : hget H6 H.size 1 = some (.slice a p.length cap) := hget_cells b6
  obtain ⟨hd, hhd⟩ : ∃ hd, hd = (headL k p.length).map (Value.int .u8) := ⟨_, rfl⟩
  obtain ⟨sm, hsm⟩ : ∃ sm, sm = (be4 (sumI p)).map (Value.int .u8) := ⟨_, rfl⟩
  have F1 : ∀ {H'}, Ext H6 H' → Fun Tryz.prog 305 #[.int .i64 k, .int .i64 p.length] H' (fun r H'' => r = .agg hd.toArray ∧ Ext H6 H'' ∧ Ext H' H'') := fun x => by
    rw [hhd]; exact (F305 k p.length (by omega) (by omega) (ht.ext (Upto.ext x6 x6.size x))).mono fun r H'' h => ⟨h.1, Upto.ext x x.size h.2, h.2⟩
  have F2 : ∀ {H'}, Ext H6 H' → Fun Tryz.prog 306 #[.slice a p.length cap] H' (fun r H'' => r = .agg sm.toArray ∧ Ext H6 H'' ∧ Ext H' H'') := fun x => by
    rw [hsm]; exact (F306 (hv.ext (Upto.ext x6 x6.size x)) hb (ht.ext (Upto.ext x6 x6.size x)) hl).mono fun r H'' h => ⟨h.1, Upto.ext x x.size h.2, h.2⟩
  have hd8 : ∃ h0 h1 h2 h3 h4 h5 h6 h7, hd = [.int .u8 h0, .int .u8 h1, .int .u8 h2, .int .u8 h3, .int .u8 h4, .int .u8 h5, .int .u8 h6, .int .u8 h7] := ⟨_, _, _, _, _, _, _, _, hhd⟩
  have sm4 : ∃ s0 s1 s2 s3, sm = [.int .u8 s0, .int .u8 s1, .int .u8 s2, .int .u8 s3] := ⟨_, _, _, _, hsm⟩
  obtain ⟨h0, h1, h2, h3, h4, h5, h6', h7, rfl⟩ := hd8
  obtain ⟨s0, s1, s2, s3, rfl⟩ := sm4
  repeat' (first
    | exact Upto.refl _ _
    | assumption
    | with_reducible refine Ext.pushr ?_
    | with_reducible refine FunI.by (F1 ?_) ?_
    | with_reducible refine FunI.by (F2 ?_) ?_
    | (rintro _ K ⟨rfl, x, y⟩; simp only [go_sem, ↓reduceIte, Nat.reduceEqDiff, Nat.reduceLeDiff, Nat.reduceAdd, Nat.reduceMul, Nat.reduceSub, Nat.reduceBEq, Nat.reduceGT, Nat.reduceLT, Int.reduceLE, Int.reduceLT, Int.reduceNeg, reduceCtorEq, ext_push, ext_refl, true_and, ← h6, x])
    | with_reducible exact push_new
    | with_reducible refine Upto.size (B := H6.size) ?_
    | with_reducible refine Ext.old (Ext.push _) ?_
    | with_reducible refine Ext.old (by assumption) ?_
    | (fail_if_success (with_reducible refine And.intro rfl ?_)
       with_reducible refine And.intro ?_ ?_))
  all_goals refine encGo (H6 := H6) (e8 := 350) (e4 := 352) (c8 := #[.int .u8 0, .int .u8 0, .int .u8 0, .int .u8 0, .int .u8 0, .int .u8 0, .int .u8 0, .int .u8 0]) (c4 := #[.int .u8 0, .int .u8 0, .int .u8 0, .int .u8 0]) ?_ ?_ ?_ ?_ ?_ rfl rfl rfl rfl rfl rfl (by decide) ?_
  all_goals repeat' (first
    | exact Upto.refl _ _
    | assumption
    | with_reducible exact push_new
    | with_reducible refine Upto.size (B := H6.size) ?_
    | with_reducible refine Ext.pushr ?_
    | with_reducible refine Ext.old (Ext.push _) ?_
    | with_reducible refine Ext.old (by assumption) ?_)
  all_goals try clear x y
  all_goals (
    intro K2 hB x2 kA kB
    rw [e3]
    have z2 := Ext.old x2 z6
    have hA : Sl K2 5 1 _ _ := Sl.of (len := 8) (cap := 8) (o := 0) (vs := [.int .u8 h0, .int .u8 h1, .int .u8 h2, .int .u8 h3, .int .u8 h4, .int .u8 h5, .int .u8 h6', .int .u8 h7]) kA (by decide) rfl (fun i hi => by simp)
    obtain ⟨r1, r2⟩ := raw_put (l := List.replicate (12 + p.length) (.int .u8 0)) (o := 0) (ys := [.int .u8 h0, .int .u8 h1, .int .u8 h2, .int .u8 h3, .int .u8 h4, .int .u8 h5, .int .u8 h6', .int .u8 h7]) z2 (by simp; omega)
    refine RunI.by (copy_raw ty53 ty5 hA (by simp [Value.oneCell']) (m := 8) rfl (by omega) r1) ?_
    rintro _ K3 ⟨rfl, hK3⟩
    rw [← hK3] at r2
    have x3 : Ext H K3 := by rw [hK3]; exact Upto.hput (Upto.ext x6 x6.size x2) (by omega)
    have b3 := (show K3[H.size]? = K2[H.size]? by rw [hK3]; exact hput_other K2 (H.size + 1) 0 _ (by omega)).trans (Ext.old x2 b6)
    have kB3 := (show K3[_]? = K2[_]? by rw [hK3]; exact hput_other K2 (H.size + 1) 0 _ (by omega)).trans kB
    clear hK3
    have g3 : hget K3 H.size 1 = some (.slice a p.length cap) := hget_cells b3
    have t3 : ([Value.int .u8 h0, .int .u8 h1, .int .u8 h2, .int .u8 h3, .int .u8 h4, .int .u8 h5, .int .u8 h6', .int .u8 h7].length) = 8 := rfl
    simp only [List.take_zero, List.nil_append, List.drop_replicate, t3, Nat.zero_add] at r2
    simp only [go_sem, ↓reduceIte, Nat.reduceEqDiff, Nat.reduceLeDiff, Nat.reduceAdd, Nat.reduceMul, Nat.reduceSub, Nat.reduceBEq, Nat.reduceGT, Nat.reduceLT, Int.reduceLE, Int.reduceLT, Int.reduceNeg, reduceCtorEq, g3, e1, e2, e3, show (Int.toNat 8) = 8 from rfl]
    refine ⟨by omega, ?_⟩
    rw [if_neg (by omega)]
    obtain ⟨r3, r4⟩ := raw_put (o := 8) (ys := p.map (.int .u8)) r2 (by simp; omega)
    refine RunI.by (copy_raw ty53 ty5 (hv.ext x3) (by intro u hu; obtain ⟨q, _, rfl⟩ := List.mem_map.1 hu; rfl) (m := p.length) (by simp) (by omega) r3) ?_
    rintro _ K4 ⟨rfl, hK4⟩
    rw [← hK4] at r4
    have x4 : Ext H K4 := by rw [hK4]; exact Upto.hput x3 (by omega)
    have kB4 := (show K4[_]? = K3[_]? by rw [hK4]; exact hput_other K3 (H.size + 1) 8 _ (by omega)).trans kB3
    rw [enc1 (hs := [_, _, _, _, _, _, _, _]) rfl (by simp)] at r4
    clear hK4 r2 r3 b3 g3
    have hB4 : Sl K4 5 1 _ _ := Sl.of (len := 4) (cap := 4) (o := 0) (vs := [.int .u8 s0, .int .u8 s1, .int .u8 s2, .int .u8 s3]) kB4 (by decide) rfl (fun i hi => by simp)
    simp only [go_sem, ↓reduceIte, Nat.reduceEqDiff, Nat.reduceLeDiff, Nat.reduceAdd, Nat.reduceMul, Nat.reduceSub, Nat.reduceBEq, Nat.reduceGT, Nat.reduceLT, Int.reduceLE, Int.reduceLT, Int.reduceNeg, reduceCtorEq, e1, e2, e3, show (8 + (p.length : Int)).toNat = 8 + p.length by omega]
    refine ⟨by omega, ?_⟩
    rw [if_neg (by omega), show 12 + p.length - (8 + p.length) = 4 by omega]
    obtain ⟨r5, r6⟩ := raw_put (o := 8 + p.length) (ys := [.int .u8 s0, .int .u8 s1, .int .u8 s2, .int .u8 s3]) r4 (by simp; omega)
    refine RunI.by (copy_raw ty53 ty5 hB4 (by simp [Value.oneCell']) (m := 4) rfl (by omega) r5) ?_
    rintro _ K5 ⟨rfl, hK5⟩
    rw [← hK5, enc2 (hs := [_, _, _, _, _, _, _, _]) rfl (by simp) rfl] at r6
    have x5 : Ext H K5 := by rw [hK5]; exact Upto.hput x4 (by omega)
    clear hK5 r5 r4
    simp only [go_sem, ↓reduceIte, Nat.reduceEqDiff, Nat.reduceLeDiff, Nat.reduceAdd, Nat.reduceMul, Nat.reduceSub, Nat.reduceBEq, Nat.reduceGT, Nat.reduceLT, Int.reduceLE, Int.reduceLT, Int.reduceNeg, reduceCtorEq]
    have hfin : (encL k p).map (Value.int .u8) = ([.int .u8 h0, .int .u8 h1, .int .u8 h2, .int .u8 h3, .int .u8 h4, .int .u8 h5, .int .u8 h6', .int .u8 h7] ++ p.map (.int .u8) ++ [.int .u8 s0, .int .u8 s1, .int .u8 s2, .int .u8 s3] : List Value) := by
      rw [hhd, hsm]
      simp [encL]
    have hE : encE k p = 0 := by simp [encE, hk, hn]
    have hO : encO k p = encL k p := by simp [encO, hk, hn]
    rw [hE, hO, hfin]
    exact ⟨_, rfl, Own.raw r6 (by simp; omega) (by omega) (by unfold maxLen; omega), x5⟩)
end Go.Proofs.YtgigigchjnnonaaGreatDoor
