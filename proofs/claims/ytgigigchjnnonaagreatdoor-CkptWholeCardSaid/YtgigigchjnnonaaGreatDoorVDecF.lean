/- frame.Decode. -/
import Derived.Test.YtgigigchjnnonaaGreatDoorVFrm
import Derived.Stop.BytesEq
import Derived.Laws.StructEq
import Derived.KernelRfl
set_option linter.unusedSimpArgs false
set_option linter.unusedVariables false
set_option maxRecDepth 20000
namespace Go.V
open Go
theorem all_range_eq' : ∀ (xs ys : List Int), xs.length = ys.length → ((List.range xs.length).all fun i => xs.getD i 0 == ys.getD i 0) = (xs == ys)
  | [], [], _ => rfl
  | x :: xs, y :: ys, h => by
    have ih := all_range_eq' xs ys (by simpa using h)
    rw [List.length_cons, List.range_succ_eq_map, List.all_cons, List.all_map]
    simp only [Function.comp_def, List.getD_cons_succ, List.getD_cons_zero]
    rw [ih]
    rfl
  | [], _ :: _, h => by simp at h
  | _ :: _, [], h => by simp at h
theorem run_equalIn_arr {P : Program} (k : IntKind) (w : World) (d : Nat) (t e : TypeId) (n : Nat) (ht : P.underlying t = some (.array n e)) (he : P.underlying e = some (.int k)) (hsz : ∀ w, (sizeOf e).run P w = .ok 1 w)
    (xs ys : List Int) (hx : xs.length = n) (hy : ys.length = n) :
    (Op.equalIn (d + 2) t (.agg (xs.map (Value.int k)).toArray) (.agg (ys.map (Value.int k)).toArray)).run P w = .ok (xs == ys) w := by
  rw [← all_range_eq' xs ys (hx.trans hy.symm), hx, List.range_eq_range', Op.equalIn]
  simp only [Sem.run_bind, run_underlying ht, Result.andThen_ok, hsz, Std.Legacy.Range.forIn_eq_forIn_range', Std.Legacy.Range.size, Nat.sub_zero, Nat.add_sub_cancel, Nat.div_one]
  have hl : ∀ i ∈ List.range' 0 n 1, i < n := fun i hi => by simpa using (List.mem_range'_1.1 hi).2
  generalize List.range' 0 n 1 = l at hl ⊢
  induction l with
  | nil => simp
  | cons i l ih =>
    have hi : i < n := hl i (by simp)
    have px : (part e (xs.map (Value.int k)).toArray (i * 1)).run P w = .ok (Value.int k (xs.getD i 0)) w := by
      simp [part, isAgg, run_underlying he, List.getD, List.getElem?_eq_getElem (show i < xs.length by omega)]
    have py : (part e (ys.map (Value.int k)).toArray (i * 1)).run P w = .ok (Value.int k (ys.getD i 0)) w := by
      simp [part, isAgg, run_underlying he, List.getD, List.getElem?_eq_getElem (show i < ys.length by omega)]
    have pe : (Op.equalIn (d + 1) e (Value.int k (xs.getD i 0)) (Value.int k (ys.getD i 0))).run P w = .ok (xs.getD i 0 == ys.getD i 0) w := by
      rw [run_equalIn_int w d e k k _ _ he]
    simp only [List.forIn_cons, Sem.run_bind, px, py, pe, Result.andThen_ok, List.all_cons]
    cases hb : (xs.getD i 0 == ys.getD i 0)
    · simp
    · simpa using ih (fun j hj => hl j (by simp [hj]))
end Go.V
namespace Go.Proofs.YtgigigchjnnonaaGreatDoor
open Go Go.V
theorem ne_head (x y : Operand) (xs ys : List Int) (H : Heap) (hx : xs.length = 8) (hy : ys.length = 8) :
    RunS Tryz.prog (sBinOp .neq 350 x y (.agg (xs.map (Value.int .u8)).toArray) (.agg (ys.map (Value.int .u8)).toArray)) H (fun v H' => v = .bool (decide (xs ≠ ys)) ∧ H = H') := by
  intro w hw
  have hu : Tryz.prog.underlying 350 = some (.array 8 5) := by kernel_rfl
  have he : Tryz.prog.underlying 5 = some (.int .u8) := by kernel_rfl
  have hg : Tryz.prog.eqGuardType Tryz.prog.depth 350 = false := by kernel_rfl
  refine ⟨_, w, ?_, Same.refl _, rfl, hw.symm⟩
  unfold sBinOp
  rw [Sem.run_bind, run_eqGuard_agg _ _ _ _ _ _ _ hg, Result.andThen_ok, run_neq_struct, run_equalIn_arr .u8 w 9998 350 5 8 hu he ((tyOf_ok Tryz.prog).size ty5) xs ys hx hy, Result.andThen_ok]
  congr 2
  by_cases h : xs = ys <;> simp [h]
theorem ne_four (x y : Operand) (xs ys : List Int) (H : Heap) (hx : xs.length = 4) (hy : ys.length = 4) :
    RunS Tryz.prog (sBinOp .neq 352 x y (.agg (xs.map (Value.int .u8)).toArray) (.agg (ys.map (Value.int .u8)).toArray)) H (fun v H' => v = .bool (decide (xs ≠ ys)) ∧ H = H') := by
  intro w hw
  have hu : Tryz.prog.underlying 352 = some (.array 4 5) := by kernel_rfl
  have he : Tryz.prog.underlying 5 = some (.int .u8) := by kernel_rfl
  have hg : Tryz.prog.eqGuardType Tryz.prog.depth 352 = false := by kernel_rfl
  refine ⟨_, w, ?_, Same.refl _, rfl, hw.symm⟩
  unfold sBinOp
  rw [Sem.run_bind, run_eqGuard_agg _ _ _ _ _ _ _ hg, Result.andThen_ok, run_neq_struct, run_equalIn_arr .u8 w 9998 352 5 4 hu he ((tyOf_ok Tryz.prog).size ty5) xs ys hx hy, Result.andThen_ok]
  congr 2
  by_cases h : xs = ys <;> simp [h]
/-- A frame at the front of bytes: kind, payload, length; or 32. -/
def decF (b : List Int) : Int × List Int × Int × Int :=
  if b.length < 12 then (0, [], 0, 32) else
  let k := b.getD 1 0
  let n := b.getD 2 0 * 256 + b.getD 3 0
  if ¬ (k = 1 ∨ k = 2 ∨ k = 3) ∨ 1024 < n ∨ (b.length : Int) < 12 + n ∨ b.take 8 ≠ headL k n then (0, [], 0, 32) else
  let p := (b.drop 8).take n.toNat
  if (b.drop (8 + n.toNat)).take 4 ≠ be4 (sumI p) then (0, [], 0, 32) else (k, p, 12 + n, 0)
theorem ints_gets {H : Heap} {e : TypeId} {k : IntKind} {xs : List Int} {g o len cap m : Nat} (h : Ints H e k (.slice (some ⟨g, o, none⟩) len cap) xs) (j : Nat) (hm : j + m ≤ xs.length) :
    hgets H g (o + j) m = some (((xs.drop j).take m).map (.int k)) := hgets_of (by simp; omega) fun i hi => by
  rw [Nat.add_assoc, h.get (by omega), List.getElem?_map, List.getElem?_take_of_lt hi, List.getElem?_drop, List.getD_eq_getElem?_getD, List.getElem?_eq_getElem (by omega)]
  rfl
theorem ints_sub {H : Heap} {e : TypeId} {k : IntKind} {xs : List Int} {g o len cap l h : Nat} (hs : Ints H e k (.slice (some ⟨g, o, none⟩) len cap) xs) (h1 : l ≤ h) (h2 : h ≤ len) (h3 : l < cap) :
    Ints H e k (.slice (some ⟨g, o + l, none⟩) (h - l) (cap - l)) ((xs.drop l).take (h - l)) := by
  have hc := Sl.lecap hs
  have := Sl.sub hs h1 h2 (m := cap) (by omega)
  rw [if_neg (by omega)] at this
  simp only [Option.map_some, Nat.mul_one, add_none] at this
  unfold Ints
  rw [List.map_take, List.map_drop]
  exact this
theorem decErr {H K : Heap} (x : Ext H K) (hK : K[H.size]? = some (.cells #[.int .i64 0, .slice none 0 0] 215)) :
    [Value.int .i64 0, Value.slice none 0 0].all Value.oneCell' = true ∧ hcan K H.size 0 2 ∧
      loadV (tyOf Tryz.prog) 215 (.pointer (some ⟨H.size, 0, none⟩)) (hput K H.size 0 [.int .i64 0, .slice none 0 0]) (fun v =>
        ∃ u, Value.tuple #[v, .int .i64 0, .int .i64 32] = .tuple #[.agg #[.int .i64 0, u], .int .i64 0, .int .i64 32] ∧
          V.Own (hput K H.size 0 [.int .i64 0, .slice none 0 0]) H.size 5 1 u [] ∧ Ext H (hput K H.size 0 [.int .i64 0, .slice none 0 0])) := by
  refine ⟨rfl, hcan_of hK (by simp), ?_⟩
  have hp : (hput K H.size 0 [.int .i64 0, .slice none 0 0])[H.size]? = some (.cells #[.int .i64 0, .slice none 0 0] 215) := by rw [hput_same hK]; rfl
  have q0 : hget (hput K H.size 0 [.int .i64 0, .slice none 0 0]) H.size 0 = some (.int .i64 0) := hget_cells hp
  have q1 : hget (hput K H.size 0 [.int .i64 0, .slice none 0 0]) H.size 1 = some (.slice none 0 0) := hget_cells hp
  rw [loadV_K]
  simp only [go_sem, ↓reduceIte, Nat.reduceEqDiff, Nat.reduceLeDiff, Nat.reduceAdd, Nat.reduceMul, Nat.reduceSub, Nat.reduceBEq, Nat.reduceGT, Nat.reduceLT, Int.reduceLE, Int.reduceLT, Int.reduceNeg, reduceCtorEq, q0, q1]
  exact ⟨_, rfl, .inl ⟨rfl, rfl⟩, Upto.hput x (Nat.le_refl _)⟩
theorem F274 {v : Value} {bs : List Int} {H : Heap} (hv : Ints H 5 .u8 v bs) (hb : Byt bs) (ht : CrcTab H) (hl : bs.length < 9223372036854775807) :
    Fun Tryz.prog 274 #[v] H (fun r H' => ∃ u, r = .tuple #[.agg #[.int .i64 (decF bs).1, u], .int .i64 (decF bs).2.2.1, .int .i64 (decF bs).2.2.2] ∧ V.Own H' H.size 5 1 u ((decF bs).2.1.map (.int .u8)) ∧ Ext H H') := by
  obtain ⟨a, cap, rfl⟩ := hv.form
  refine fun_of mixed (args := [_]) Tryz.func274 Tryz.ntmps274 b274 r274 rfl ?_
  simp only [go_sem, ↓reduceIte, Nat.reduceEqDiff, Nat.reduceLeDiff, Nat.reduceAdd, Nat.reduceMul, Nat.reduceSub, Nat.reduceBEq, Nat.reduceGT, Nat.reduceLT, Int.reduceLE, Int.reduceLT, Int.reduceNeg, reduceCtorEq]
  by_cases c0 : bs.length < 12
  · have c0' : ((bs.length : Int)) < 12 := by omega
    have hd : decF bs = (0, [], 0, 32) := by unfold decF; rw [if_pos c0]
    simp only [go_sem, ↓reduceIte, Nat.reduceEqDiff, Nat.reduceLeDiff, Nat.reduceAdd, Nat.reduceMul, Nat.reduceSub, Nat.reduceBEq, Nat.reduceGT, Nat.reduceLT, Int.reduceLE, Int.reduceLT, Int.reduceNeg, reduceCtorEq, c0', hd, List.map]
    exact decErr (Ext.push _) push_new
  have c0' : ¬ ((bs.length : Int)) < 12 := by omega
  obtain ⟨g, o, rfl⟩ := hv.at (i := 0) (by omega)
  have x1 : Ext H (H.push (.cells #[.int .i64 0, .slice none 0 0] 215)) := Ext.push _
  have hg : ∀ i, i < bs.length → hget (H.push (.cells #[.int .i64 0, .slice none 0 0] 215)) g (o + i) = some (.int .u8 (bs.getD i 0)) := fun i hi => (hv.ext x1).get hi
  have hg1 := hg 1 (by omega)
  have hg2 := hg 2 (by omega)
  have hg3 := hg 3 (by omega)
  have by' : ∀ i, 0 ≤ bs.getD i 0 ∧ bs.getD i 0 < 256 := fun i => by
    by_cases hi : i < bs.length
    · rw [List.getD_eq_getElem?_getD, List.getElem?_eq_getElem hi]
      exact hb _ (List.getElem_mem hi)
    · rw [List.getD_eq_getElem?_getD, List.getElem?_eq_none (by omega)]
      decide
  obtain ⟨k, hk⟩ : ∃ k, k = bs.getD 1 0 := ⟨_, rfl⟩
  obtain ⟨n1, hn1⟩ : ∃ k, k = bs.getD 2 0 := ⟨_, rfl⟩
  obtain ⟨n2, hn2⟩ : ∃ k, k = bs.getD 3 0 := ⟨_, rfl⟩
  have b1 := by' 1
  have b2 := by' 2
  have b3 := by' 3
  rw [← hk] at hg1 b1
  rw [← hn1] at hg2 b2
  rw [← hn2] at hg3 b3
  have e1 : IntKind.i64.wrap k = k := w64_id (by omega) (by omega)
  have e2 : IntKind.i64.wrap n1 = n1 := w64_id (by omega) (by omega)
  have e3 : IntKind.i64.wrap n2 = n2 := w64_id (by omega) (by omega)
  have e4 : ishl .i64 n1 8 = n1 * 256 := by rw [ishl_eq (by decide) (by decide)]; exact w64_id (by show _ ≤ n1 * 256; omega) (by show n1 * 256 < _; omega)
  have e5 : IntKind.i64.wrap (n1 * 256 + n2) = n1 * 256 + n2 := w64_id (by omega) (by omega)
  have t1 : Int.toNat 1 = 1 := rfl
  have t2 : Int.toNat 2 = 2 := rfl
  have t3 : Int.toNat 3 = 3 := rfl
  have l1 : (1 : Int) < bs.length := by omega
  have l2 : (2 : Int) < bs.length := by omega
  have l3 : (3 : Int) < bs.length := by omega
  simp only [go_sem, ↓reduceIte, Nat.reduceEqDiff, Nat.reduceLeDiff, Nat.reduceAdd, Nat.reduceMul, Nat.reduceSub, Nat.reduceBEq, Nat.reduceGT, Nat.reduceLT, Int.reduceLE, Int.reduceLT, Int.reduceNeg, reduceCtorEq, c0', t1, t2, t3, l1, l2, l3, hg1, hg2, hg3, e1, e2, e3, e4, e5]
  have hdec : decF bs = (let n := n1 * 256 + n2
      if ¬ (k = 1 ∨ k = 2 ∨ k = 3) ∨ 1024 < n ∨ (bs.length : Int) < 12 + n ∨ bs.take 8 ≠ headL k n then (0, [], 0, 32) else
      if (bs.drop (8 + n.toNat)).take 4 ≠ be4 (sumI ((bs.drop 8).take n.toNat)) then (0, [], 0, 32) else (k, (bs.drop 8).take n.toNat, 12 + n, 0)) := by
    unfold decF; rw [if_neg c0, ← hk, ← hn1, ← hn2]
  obtain ⟨n, hn⟩ : ∃ n, n = n1 * 256 + n2 := ⟨_, rfl⟩
  rw [← hn] at hdec ⊢
  have hn0 : 0 ≤ n ∧ n < 65536 := by omega
  refine FunI.by (F304 k _) ?_
  rintro _ _ ⟨rfl, rfl⟩
  by_cases ck : ¬ (k = 1 ∨ k = 2 ∨ k = 3)
  · have hd : decF bs = (0, [], 0, 32) := by rw [hdec]; exact if_pos (.inl ck)
    simp only [go_sem, ↓reduceIte, Nat.reduceEqDiff, Nat.reduceLeDiff, Nat.reduceAdd, Nat.reduceMul, Nat.reduceSub, Nat.reduceBEq, Nat.reduceGT, Nat.reduceLT, Int.reduceLE, Int.reduceLT, Int.reduceNeg, reduceCtorEq, ck, decide_false, hd, List.map]
    exact ⟨Upto.refl _ _, decErr (Ext.push _) push_new⟩
  have ck' := Classical.not_not.1 ck
  by_cases cn : 1024 < n
  · have hd : decF bs = (0, [], 0, 32) := by rw [hdec]; exact if_pos (.inr (.inl cn))
    simp only [go_sem, ↓reduceIte, Nat.reduceEqDiff, Nat.reduceLeDiff, Nat.reduceAdd, Nat.reduceMul, Nat.reduceSub, Nat.reduceBEq, Nat.reduceGT, Nat.reduceLT, Int.reduceLE, Int.reduceLT, Int.reduceNeg, reduceCtorEq, ck', decide_true, cn, hd, List.map]
    exact ⟨Upto.refl _ _, decErr (Ext.push _) push_new⟩
  have e6 : IntKind.i64.wrap (8 + n) = 8 + n := w64_id (by omega) (by omega)
  have e7 : IntKind.i64.wrap (8 + n + 4) = 8 + n + 4 := w64_id (by omega) (by omega)
  by_cases cl : (bs.length : Int) < 8 + n + 4
  · have hd : decF bs = (0, [], 0, 32) := by rw [hdec]; exact if_pos (.inr (.inr (.inl (by omega))))
    simp only [go_sem, ↓reduceIte, Nat.reduceEqDiff, Nat.reduceLeDiff, Nat.reduceAdd, Nat.reduceMul, Nat.reduceSub, Nat.reduceBEq, Nat.reduceGT, Nat.reduceLT, Int.reduceLE, Int.reduceLT, Int.reduceNeg, reduceCtorEq, ck', decide_true, cn, decide_false, e6, e7, cl, hd, List.map]
    exact ⟨Upto.refl _ _, decErr (Ext.push _) push_new⟩
  have g8 := ints_gets (m := 8) (hv.ext x1) 0 (by omega)
  rw [Nat.add_zero, List.drop_zero] at g8
  have lc := Sl.lecap (hv.ext x1)
  have l8 : (8 : Int) ≤ cap := by omega
  simp only [go_sem, ↓reduceIte, Nat.reduceEqDiff, Nat.reduceLeDiff, Nat.reduceAdd, Nat.reduceMul, Nat.reduceSub, Nat.reduceBEq, Nat.reduceGT, Nat.reduceLT, Int.reduceLE, Int.reduceLT, Int.reduceNeg, reduceCtorEq, ck', decide_true, cn, decide_false, e6, e7, cl, g8, l8]
  refine ⟨Upto.refl _ _, by decide, ?_⟩
  refine FunI.by (F305 k n (by omega) hn0 (ht.ext x1)) ?_
  rintro _ H2 ⟨rfl, x2⟩
  have x12 : Ext H H2 := Upto.ext x1 x1.size x2
  simp only [go_sem, ↓reduceIte, Nat.reduceEqDiff, Nat.reduceLeDiff, Nat.reduceAdd, Nat.reduceMul, Nat.reduceSub, Nat.reduceBEq, Nat.reduceGT, Nat.reduceLT, Int.reduceLE, Int.reduceLT, Int.reduceNeg, reduceCtorEq]
  refine ⟨x2, ?_⟩
  refine RunI.by (ne_head _ _ (bs.take 8) (headL k n) H2 (by simp; omega) (headL_len k n)) ?_
  rintro _ _ ⟨rfl, rfl⟩
  have rc : H2[H.size]? = some (.cells #[.int .i64 0, .slice none 0 0] 215) := Ext.old x2 push_new
  by_cases ch : bs.take 8 ≠ headL k n
  · have hd : decF bs = (0, [], 0, 32) := by rw [hdec]; exact if_pos (.inr (.inr (.inr ch)))
    simp only [go_sem, ↓reduceIte, Nat.reduceEqDiff, Nat.reduceLeDiff, Nat.reduceAdd, Nat.reduceMul, Nat.reduceSub, Nat.reduceBEq, Nat.reduceGT, Nat.reduceLT, Int.reduceLE, Int.reduceLT, Int.reduceNeg, reduceCtorEq, ch, decide_true, hd, List.map]
    exact ⟨x2, decErr x12 rc⟩
  have ch' := Classical.not_not.1 ch
  have hd : decF bs = (if (bs.drop (8 + n.toNat)).take 4 ≠ be4 (sumI ((bs.drop 8).take n.toNat)) then (0, [], 0, 32) else (k, (bs.drop 8).take n.toNat, 12 + n, 0)) := by
    rw [hdec]; exact if_neg (by rintro (h | h | h | h); exact h ck'; exact cn h; omega; exact h ch')
  simp only [go_sem, ↓reduceIte, Nat.reduceEqDiff, Nat.reduceLeDiff, Nat.reduceAdd, Nat.reduceMul, Nat.reduceSub, Nat.reduceBEq, Nat.reduceGT, Nat.reduceLT, Int.reduceLE, Int.reduceLT, Int.reduceNeg, reduceCtorEq, ch', ne_eq, not_true, decide_false, e6, e7]
  obtain ⟨N, rfl⟩ : ∃ N : Nat, n = N := ⟨n.toNat, by omega⟩
  have tN : (8 + (N : Int)).toNat = 8 + N := by omega
  have tN4 : (8 + (N : Int) + 4).toNat = 12 + N := by omega
  rw [tN, tN4]
  refine ⟨x2, ⟨⟨by omega, by omega⟩, by omega⟩, ⟨⟨by omega, by omega⟩, by omega, by omega⟩, by omega, ?_⟩
  rw [if_neg (by omega)]
  have g4 := ints_gets (m := 4) (hv.ext x12) (8 + N) (by omega)
  simp only [go_sem, ↓reduceIte, Nat.reduceEqDiff, Nat.reduceLeDiff, Nat.reduceAdd, Nat.reduceMul, Nat.reduceSub, Nat.reduceBEq, Nat.reduceGT, Nat.reduceLT, Int.reduceLE, Int.reduceLT, Int.reduceNeg, reduceCtorEq, g4]
  have t8 : Int.toNat 8 = 8 := rfl
  rw [t8, if_neg (by omega), show 8 + N - 8 = N by omega]
  have hp := ints_sub (l := 8) (h := 8 + N) (hv.ext x12) (by omega) (by omega) (by omega)
  rw [show 8 + N - 8 = N by omega] at hp
  refine FunI.by (F306 hp (fun c hc => hb c (List.mem_of_mem_drop (List.mem_of_mem_take hc))) (ht.ext x12) (by simp; omega)) ?_
  rintro _ H3 ⟨rfl, x3⟩
  have x13 : Ext H H3 := Upto.ext x12 x12.size x3
  simp only [go_sem, ↓reduceIte, Nat.reduceEqDiff, Nat.reduceLeDiff, Nat.reduceAdd, Nat.reduceMul, Nat.reduceSub, Nat.reduceBEq, Nat.reduceGT, Nat.reduceLT, Int.reduceLE, Int.reduceLT, Int.reduceNeg, reduceCtorEq]
  refine ⟨x3, ?_⟩
  refine RunI.by (ne_four _ _ ((bs.drop (8 + N)).take 4) (be4 (sumI ((bs.drop 8).take N))) H3 (by simp; omega) rfl) ?_
  rintro _ _ ⟨rfl, rfl⟩
  rw [show (N : Int).toNat = N by omega] at hd
  have rc3 := Ext.old x3 rc
  by_cases cs : (bs.drop (8 + N)).take 4 ≠ be4 (sumI ((bs.drop 8).take N))
  · rw [if_pos cs] at hd
    simp only [go_sem, ↓reduceIte, Nat.reduceEqDiff, Nat.reduceLeDiff, Nat.reduceAdd, Nat.reduceMul, Nat.reduceSub, Nat.reduceBEq, Nat.reduceGT, Nat.reduceLT, Int.reduceLE, Int.reduceLT, Int.reduceNeg, reduceCtorEq, cs, decide_true, hd, List.map]
    exact ⟨x3, decErr x13 rc3⟩
  rw [if_neg cs] at hd
  have cs' := Classical.not_not.1 cs
  have eN : ((N : Int)).toNat = N := by omega
  simp only [go_sem, ↓reduceIte, Nat.reduceEqDiff, Nat.reduceLeDiff, Nat.reduceAdd, Nat.reduceMul, Nat.reduceSub, Nat.reduceBEq, Nat.reduceGT, Nat.reduceLT, Int.reduceLE, Int.reduceLT, Int.reduceNeg, reduceCtorEq, cs', ne_eq, not_true, decide_false, e6, e7, eN]
  refine ⟨x3, by omega, Int.le_refl _, by omega, by omega, ?_⟩
  have x4 : Ext H (H3.push (.cells (zrow (.int .u8 0) N) 5)) := Upto.push x13 x13.size _
  have z4 : (H3.push (.cells (zrow (.int .u8 0) N) 5))[H3.size]? = some (.cells (List.replicate N (.int .u8 0)).toArray 5) := by rw [push_new, zrow_rep]
  have rc4 := (Ext.push (.cells (zrow (.int .u8 0) N) 5)).old rc3
  have hpl : ((bs.drop 8).take N).length = N := by simp; omega
  obtain ⟨r1, r2⟩ := raw_put (o := 0) (ys := ((bs.drop 8).take N).map (.int .u8)) z4 (by simp only [List.length_map, hpl, List.length_replicate]; omega)
  refine RunI.by (copy_raw ty53 ty5 (hp.ext (Upto.ext x3 x3.size (Ext.push _))) (by intro u hu; obtain ⟨q, _, rfl⟩ := List.mem_map.1 hu; rfl) (m := N) (by rw [List.length_map, hpl]) (Nat.le_refl _) r1) ?_
  rintro _ K ⟨rfl, hK⟩
  rw [← hK, List.take_zero, List.nil_append, Nat.zero_add, List.length_map, hpl, (show (List.replicate N (Value.int .u8 0)).drop N = [] by simp), List.append_nil] at r2
  have xK : Ext H K := by rw [hK]; exact Upto.hput x4 x13.size
  have hne : H.size ≠ H3.size := by
    have h1 := x1.size
    have h2 := x2.size
    have h3 := x3.size
    simp only [Array.size_push] at h1 h2 h3
    omega
  have rK := (show K[H.size]? = _ by rw [hK]; exact hput_other _ H3.size 0 _ hne).trans rc4
  clear hK r1 z4 rc4
  simp only [go_sem, ↓reduceIte, Nat.reduceEqDiff, Nat.reduceLeDiff, Nat.reduceAdd, Nat.reduceMul, Nat.reduceSub, Nat.reduceBEq, Nat.reduceGT, Nat.reduceLT, Int.reduceLE, Int.reduceLT, Int.reduceNeg, reduceCtorEq, e6, e7]
  have rF : (hput K H.size 0 [.int .i64 k, .slice (some ⟨H3.size, 0, none⟩) N N])[H.size]? = some (.cells #[.int .i64 k, .slice (some ⟨H3.size, 0, none⟩) N N] 215) := by rw [hput_same rK]; rfl
  have rG := (hput_other K H.size 0 [.int .i64 k, .slice (some ⟨H3.size, 0, none⟩) N N] hne.symm).trans r2
  have q0 := (hget_cells (o := 0) rF)
  have q1 := (hget_cells (o := 1) rF)
  refine ⟨rfl, hcan_of rK (by simp), ?_⟩
  rw [loadV_K]
  simp only [go_sem, ↓reduceIte, Nat.reduceEqDiff, Nat.reduceLeDiff, Nat.reduceAdd, Nat.reduceMul, Nat.reduceSub, Nat.reduceBEq, Nat.reduceGT, Nat.reduceLT, Int.reduceLE, Int.reduceLT, Int.reduceNeg, reduceCtorEq, q0, q1, hd]
  refine ⟨_, ?_, Own.raw rG (by rw [List.length_map, hpl]) x13.size (by unfold maxLen; omega), Upto.hput xK (Nat.le_refl _)⟩
  rw [show 8 + (N : Int) + 4 = 12 + N by omega]
end Go.Proofs.YtgigigchjnnonaaGreatDoor
