/- ckpt.Encode: the head and the payloads of a check, or the error, as mayC says. -/
import Derived.Test.YtgigigchjnnonaaGreatDoorVSame2
set_option linter.unusedSimpArgs false
set_option linter.unusedVariables false
set_option maxRecDepth 20000
namespace Go.Proofs.YtgigigchjnnonaaGreatDoor
open Go Go.V

def four (n : Int) : List Int := [n / 16777216 % 256, n / 65536 % 256, n / 256 % 256, n % 256]
theorem sh24 {x : Int} (h0 : 0 ≤ x) (h1 : x < 4294967296) : IntKind.u8.wrap (ishr .i64 x 24) = x / 16777216 % 256 := by
  rw [wu8, ishr_eq (by omega) (by decide)]; rfl
theorem sh16 {x : Int} (h0 : 0 ≤ x) (h1 : x < 4294967296) : IntKind.u8.wrap (ishr .i64 x 16) = x / 65536 % 256 := by
  rw [wu8, ishr_eq (by omega) (by decide)]; rfl
theorem sh8 {x : Int} (h0 : 0 ≤ x) (h1 : x < 4294967296) : IntKind.u8.wrap (ishr .i64 x 8) = x / 256 % 256 := by
  rw [wu8, ishr_eq (by omega) (by decide)]; rfl
theorem four_wf (n : Int) : Byt (four n) := by
  intro c hc
  simp only [four, List.mem_cons, List.not_mem_nil, or_false] at hc
  rcases hc with h | h | h | h <;> subst h <;> omega

theorem F33 (a b c d : Int) (H : Heap) (ha : 0 ≤ a ∧ a < 4294967296) (hb : 0 ≤ b ∧ b < 4294967296) (hc : 0 ≤ c ∧ c < 4294967296) (hd : 0 ≤ d ∧ d < 4294967296) :
    Fun Tryz.prog 33 #[.agg #[.int .i64 a, .int .i64 b, .int .i64 c, .int .i64 d]] H (fun v H' => V.Own H' H.size 5 1 v ((four a ++ four b ++ four c ++ four d).map (.int .u8)) ∧ Ext H H') := by
  refine fun_of mixed (args := [_]) Tryz.func33 Tryz.ntmps33 b33 r33 rfl ?_
  simp only [go_sem, ↓reduceIte, Nat.reduceEqDiff, Nat.reduceLeDiff, Nat.reduceAdd, Nat.reduceMul, Nat.reduceSub, Nat.reduceBEq, Nat.reduceGT, Nat.reduceLT, Int.reduceLE, Int.reduceLT, Int.reduceNeg, reduceCtorEq]
  let f : Int → List Int := fun i => ([four a, four b, four c, four d].take i.toNat).flatten
  refine LoopI.by mixed (fun ρ H' => ∃ (i : Int) (v : Value), ρ 6 = .agg #[.int .i64 a, .int .i64 b, .int .i64 c, .int .i64 d] ∧ ρ 7 = .int .i64 i ∧ ρ 3 = v ∧ (i = 0 ∨ i = 1 ∨ i = 2 ∨ i = 3 ∨ i = 4) ∧ V.Own H' H.size 5 1 v ((f i).map (.int .u8)) ∧ Ext H H') (fun ρ _ => 4 - (iof (ρ 7)).toNat) ?_ ?_
  · exact ⟨0, _, by simp only [go_sem, ↓reduceIte, Nat.reduceEqDiff, Nat.reduceLeDiff, Nat.reduceAdd, Nat.reduceMul, Nat.reduceSub, Nat.reduceBEq, Nat.reduceGT, Nat.reduceLT, Int.reduceLE, Int.reduceLT, Int.reduceNeg, reduceCtorEq], by simp only [go_sem, ↓reduceIte, Nat.reduceEqDiff, Nat.reduceLeDiff, Nat.reduceAdd, Nat.reduceMul, Nat.reduceSub, Nat.reduceBEq, Nat.reduceGT, Nat.reduceLT, Int.reduceLE, Int.reduceLT, Int.reduceNeg, reduceCtorEq], rfl, .inl rfl, by simp only [go_sem, ↓reduceIte, Nat.reduceEqDiff, Nat.reduceLeDiff, Nat.reduceAdd, Nat.reduceMul, Nat.reduceSub, Nat.reduceBEq, Nat.reduceGT, Nat.reduceLT, Int.reduceLE, Int.reduceLT, Int.reduceNeg, reduceCtorEq]; exact V.Own.nil, Ext.push _⟩
  rintro ρ H' ⟨i, v, e6, e7, e3, hi, ho, hx⟩
  have step : ∀ (x : Int), (f i).length = 4 * i.toNat → i ≤ 3 →
      RunS Tryz.prog (sAppend #[53, 53] #[v, .slice (some ⟨H'.size, 0, none⟩) 4 4]) (H'.push (.cells [Value.int .u8 (x / 16777216 % 256), Value.int .u8 (x / 65536 % 256), Value.int .u8 (x / 256 % 256), Value.int .u8 (x % 256)].toArray 5)) (fun v2 H2 =>
        V.Own H2 H.size 5 1 v2 ((f i ++ four x).map (.int .u8)) ∧ Ext H H2) := by
    intro x hfl h3
    refine (append_lit ty53 ty5 rfl (by decide) ho (ys := (four x).map (.int .u8)) (m := 4) rfl rfl (n := 4 * i.toNat + 4) (by simp [hfl, four]) (by omega) (by omega) hx.size).mono ?_
    rintro v2 H2 ⟨h1, h2, _⟩
    refine ⟨by rw [List.map_append]; exact h1, hx.trans (h2.upto ho hx.size)⟩
  rcases hi with rfl | rfl | rfl | rfl | rfl
  · simp only [go_sem, ↓reduceIte, Nat.reduceEqDiff, Nat.reduceLeDiff, Nat.reduceAdd, Nat.reduceMul, Nat.reduceSub, Nat.reduceBEq, Nat.reduceGT, Nat.reduceLT, Int.reduceLE, Int.reduceLT, Int.reduceNeg, reduceCtorEq, c33_L0, e3, e6, e7, Int.toNat_zero, sh24 ha.1 ha.2, sh16 ha.1 ha.2, sh8 ha.1 ha.2, wu8]
    refine ⟨by decide, RunI.by (step a rfl (by decide)) ?_⟩
    rintro v2 H2 ⟨h1, h2⟩
    simp only [go_sem, ↓reduceIte, Nat.reduceEqDiff, Nat.reduceLeDiff, Nat.reduceAdd, Nat.reduceMul, Nat.reduceSub, Nat.reduceBEq, Nat.reduceGT, Nat.reduceLT, Int.reduceLE, Int.reduceLT, Int.reduceNeg, reduceCtorEq, e6, e7, w64_id (n := 0 + 1) (by decide) (by decide)]
    exact ⟨Hold.mk ⟨1, v2, by simp only [go_sem, ↓reduceIte, Nat.reduceEqDiff, Nat.reduceLeDiff, Nat.reduceAdd, Nat.reduceMul, Nat.reduceSub, Nat.reduceBEq, Nat.reduceGT, Nat.reduceLT, Int.reduceLE, Int.reduceLT, Int.reduceNeg, reduceCtorEq, e6], by simp only [go_sem, ↓reduceIte, Nat.reduceEqDiff, Nat.reduceLeDiff, Nat.reduceAdd, Nat.reduceMul, Nat.reduceSub, Nat.reduceBEq, Nat.reduceGT, Nat.reduceLT, Int.reduceLE, Int.reduceLT, Int.reduceNeg, reduceCtorEq]; rfl, by simp only [go_sem, ↓reduceIte, Nat.reduceEqDiff, Nat.reduceLeDiff, Nat.reduceAdd, Nat.reduceMul, Nat.reduceSub, Nat.reduceBEq, Nat.reduceGT, Nat.reduceLT, Int.reduceLE, Int.reduceLT, Int.reduceNeg, reduceCtorEq], by simp, h1, h2⟩, by decide⟩
  · simp only [go_sem, ↓reduceIte, Nat.reduceEqDiff, Nat.reduceLeDiff, Nat.reduceAdd, Nat.reduceMul, Nat.reduceSub, Nat.reduceBEq, Nat.reduceGT, Nat.reduceLT, Int.reduceLE, Int.reduceLT, Int.reduceNeg, reduceCtorEq, c33_L0, e3, e6, e7, Int.toNat_one, sh24 hb.1 hb.2, sh16 hb.1 hb.2, sh8 hb.1 hb.2, wu8]
    refine ⟨by decide, RunI.by (step b rfl (by decide)) ?_⟩
    rintro v2 H2 ⟨h1, h2⟩
    simp only [go_sem, ↓reduceIte, Nat.reduceEqDiff, Nat.reduceLeDiff, Nat.reduceAdd, Nat.reduceMul, Nat.reduceSub, Nat.reduceBEq, Nat.reduceGT, Nat.reduceLT, Int.reduceLE, Int.reduceLT, Int.reduceNeg, reduceCtorEq, e6, e7, w64_id (n := 1 + 1) (by decide) (by decide)]
    exact ⟨Hold.mk ⟨2, v2, by simp only [go_sem, ↓reduceIte, Nat.reduceEqDiff, Nat.reduceLeDiff, Nat.reduceAdd, Nat.reduceMul, Nat.reduceSub, Nat.reduceBEq, Nat.reduceGT, Nat.reduceLT, Int.reduceLE, Int.reduceLT, Int.reduceNeg, reduceCtorEq, e6], by simp only [go_sem, ↓reduceIte, Nat.reduceEqDiff, Nat.reduceLeDiff, Nat.reduceAdd, Nat.reduceMul, Nat.reduceSub, Nat.reduceBEq, Nat.reduceGT, Nat.reduceLT, Int.reduceLE, Int.reduceLT, Int.reduceNeg, reduceCtorEq]; rfl, by simp only [go_sem, ↓reduceIte, Nat.reduceEqDiff, Nat.reduceLeDiff, Nat.reduceAdd, Nat.reduceMul, Nat.reduceSub, Nat.reduceBEq, Nat.reduceGT, Nat.reduceLT, Int.reduceLE, Int.reduceLT, Int.reduceNeg, reduceCtorEq], by simp, h1, h2⟩, by decide⟩
  · simp only [go_sem, ↓reduceIte, Nat.reduceEqDiff, Nat.reduceLeDiff, Nat.reduceAdd, Nat.reduceMul, Nat.reduceSub, Nat.reduceBEq, Nat.reduceGT, Nat.reduceLT, Int.reduceLE, Int.reduceLT, Int.reduceNeg, reduceCtorEq, c33_L0, e3, e6, e7, show Int.toNat 2 = 2 from rfl, sh24 hc.1 hc.2, sh16 hc.1 hc.2, sh8 hc.1 hc.2, wu8]
    refine ⟨by decide, RunI.by (step c rfl (by decide)) ?_⟩
    rintro v2 H2 ⟨h1, h2⟩
    simp only [go_sem, ↓reduceIte, Nat.reduceEqDiff, Nat.reduceLeDiff, Nat.reduceAdd, Nat.reduceMul, Nat.reduceSub, Nat.reduceBEq, Nat.reduceGT, Nat.reduceLT, Int.reduceLE, Int.reduceLT, Int.reduceNeg, reduceCtorEq, e6, e7, w64_id (n := 2 + 1) (by decide) (by decide)]
    exact ⟨Hold.mk ⟨3, v2, by simp only [go_sem, ↓reduceIte, Nat.reduceEqDiff, Nat.reduceLeDiff, Nat.reduceAdd, Nat.reduceMul, Nat.reduceSub, Nat.reduceBEq, Nat.reduceGT, Nat.reduceLT, Int.reduceLE, Int.reduceLT, Int.reduceNeg, reduceCtorEq, e6], by simp only [go_sem, ↓reduceIte, Nat.reduceEqDiff, Nat.reduceLeDiff, Nat.reduceAdd, Nat.reduceMul, Nat.reduceSub, Nat.reduceBEq, Nat.reduceGT, Nat.reduceLT, Int.reduceLE, Int.reduceLT, Int.reduceNeg, reduceCtorEq]; rfl, by simp only [go_sem, ↓reduceIte, Nat.reduceEqDiff, Nat.reduceLeDiff, Nat.reduceAdd, Nat.reduceMul, Nat.reduceSub, Nat.reduceBEq, Nat.reduceGT, Nat.reduceLT, Int.reduceLE, Int.reduceLT, Int.reduceNeg, reduceCtorEq], by simp, by simpa [f] using h1, h2⟩, by decide⟩
  · simp only [go_sem, ↓reduceIte, Nat.reduceEqDiff, Nat.reduceLeDiff, Nat.reduceAdd, Nat.reduceMul, Nat.reduceSub, Nat.reduceBEq, Nat.reduceGT, Nat.reduceLT, Int.reduceLE, Int.reduceLT, Int.reduceNeg, reduceCtorEq, c33_L0, e3, e6, e7, show Int.toNat 3 = 3 from rfl, sh24 hd.1 hd.2, sh16 hd.1 hd.2, sh8 hd.1 hd.2, wu8]
    refine ⟨by decide, RunI.by (step d rfl (by decide)) ?_⟩
    rintro v2 H2 ⟨h1, h2⟩
    simp only [go_sem, ↓reduceIte, Nat.reduceEqDiff, Nat.reduceLeDiff, Nat.reduceAdd, Nat.reduceMul, Nat.reduceSub, Nat.reduceBEq, Nat.reduceGT, Nat.reduceLT, Int.reduceLE, Int.reduceLT, Int.reduceNeg, reduceCtorEq, e6, e7, w64_id (n := 3 + 1) (by decide) (by decide)]
    exact ⟨Hold.mk ⟨4, v2, by simp only [go_sem, ↓reduceIte, Nat.reduceEqDiff, Nat.reduceLeDiff, Nat.reduceAdd, Nat.reduceMul, Nat.reduceSub, Nat.reduceBEq, Nat.reduceGT, Nat.reduceLT, Int.reduceLE, Int.reduceLT, Int.reduceNeg, reduceCtorEq, e6], by simp only [go_sem, ↓reduceIte, Nat.reduceEqDiff, Nat.reduceLeDiff, Nat.reduceAdd, Nat.reduceMul, Nat.reduceSub, Nat.reduceBEq, Nat.reduceGT, Nat.reduceLT, Int.reduceLE, Int.reduceLT, Int.reduceNeg, reduceCtorEq]; rfl, by simp only [go_sem, ↓reduceIte, Nat.reduceEqDiff, Nat.reduceLeDiff, Nat.reduceAdd, Nat.reduceMul, Nat.reduceSub, Nat.reduceBEq, Nat.reduceGT, Nat.reduceLT, Int.reduceLE, Int.reduceLT, Int.reduceNeg, reduceCtorEq], by simp, by simpa [f] using h1, h2⟩, by decide⟩
  · simp only [go_sem, ↓reduceIte, Nat.reduceEqDiff, Nat.reduceLeDiff, Nat.reduceAdd, Nat.reduceMul, Nat.reduceSub, Nat.reduceBEq, Nat.reduceGT, Nat.reduceLT, Int.reduceLE, Int.reduceLT, Int.reduceNeg, reduceCtorEq, c33_L0, e3, e6, e7]
    exact ⟨by simpa [f] using ho, hx⟩

/-- The numbers, by pieces of 200. -/
def pieces (xs : List Int) : List (List Int) := if h : xs.length = 0 then [] else (xs.take 200).flatMap vput :: pieces (xs.drop 200)
termination_by xs.length
decreasing_by simp; omega
theorem pieces_nil : pieces [] = [] := by unfold pieces; simp
theorem pieces_cons {xs : List Int} (h : 0 < xs.length) : pieces xs = (xs.take 200).flatMap vput :: pieces (xs.drop 200) := by
  rw [pieces, dif_neg (by omega)]
theorem pieces_zero {xs : List Int} (h : xs.length = 0) : pieces xs = [] := by rw [pieces]; simp [h]
def b2i (b : Bool) : Int := if b then 1 else 0
def chkHead (gen p : Int) (xs : List Int) (ds : List Bool) : List Int := four gen ++ four p ++ four xs.length ++ four ds.length
def chkData (xs : List Int) (ds : List Bool) : List (List Int) := pieces xs ++ (if ds.length = 0 then [] else [ds.map b2i])

/-- append(v, u...) of bytes. -/
theorem append_bytes {H : Heap} {B : Nat} {v u : Value} {xs ys : List Int} (ho : V.Own H B 5 1 v (xs.map (.int .u8))) (hu : Ints H 5 .u8 u ys) (hB : B ≤ H.size) (hl : xs.length + ys.length ≤ 140737488355328) :
    RunS Tryz.prog (sAppend #[53, 53] #[v, u]) H (fun v' H' => V.Own H' B 5 1 v' ((xs ++ ys).map (.int .u8)) ∧ Upto B H H') := by
  refine (append_own ty53 ty5 rfl rfl rfl (by decide) ho hu (by simp [Value.oneCell']) (n := xs.length + ys.length) (by simp) (by show (xs.length + ys.length) * 1 ≤ _; omega) (by omega) hB).mono ?_
  rintro v' H' ⟨h1, h2, h3, h4⟩
  exact ⟨by rw [List.map_append]; exact h1, h2.upto (fun k hk => (ho.blk hk).1) hB⟩

theorem flat_v {xs : List Int} (h : ∀ x ∈ xs, 0 ≤ x ∧ x < 16777216) : (xs.flatMap vput).length ≤ 9 * xs.length := by
  induction xs with
  | nil => simp
  | cons x xs ih =>
    have h1 := ih (fun y hy => h y (by simp [hy]))
    have h2 := h x (by simp)
    have h3 : (vput x).length ≤ 9 := by rw [vput_len]; exact vlen_9 (by omega)
    simp only [List.flatMap_cons, List.length_append, List.length_cons]
    omega

def slen : Value → Nat
  | .slice _ n _ => n
  | _ => 0
set_option maxHeartbeats 1600000 in
theorem F11 (v : Value) (gen p : Int) (xs : List Int) (ds : List Bool) (H : Heap) (hv : Chk H 3 4 v p xs ds) :
    Fun Tryz.prog 11 #[.int .i64 gen, v] H (fun r H' => Ext H H' ∧
      ((mayC gen p xs ds = false ∧ r = .tuple #[.slice none 0 0, .slice none 0 0, .int .i64 180]) ∨
       (mayC gen p xs ds = true ∧ ∃ h l, r = .tuple #[h, l, .int .i64 0] ∧ V.Own H' H.size 5 1 h ((chkHead gen p xs ds).map (.int .u8)) ∧ OwnLists H' H.size 53 5 l (chkData xs ds)))) := by
  have hv' := hv
  obtain ⟨a, b, rfl, ha, hb⟩ := hv
  obtain ⟨a1, a2, rfl⟩ := ha.form
  obtain ⟨b1, b2, rfl⟩ := hb.form
  have x1 : Ext H (H.push (.cells #[.int .i64 p, .slice a1 xs.length a2, .slice b1 ds.length b2] 28)) := Ext.push _
  refine fun_of mixed (args := [_, _]) Tryz.func11 Tryz.ntmps11 b11 r11 rfl ?_
  have g0 : hget (H.push (.cells #[.int .i64 p, .slice a1 xs.length a2, .slice b1 ds.length b2] 28)) H.size 0 = some (.int .i64 p) := by simp only [go_sem, ↓reduceIte, Nat.reduceEqDiff, Nat.reduceLeDiff, Nat.reduceAdd, Nat.reduceMul, Nat.reduceSub, Nat.reduceBEq, Nat.reduceGT, Nat.reduceLT, Int.reduceLE, Int.reduceLT, Int.reduceNeg, reduceCtorEq]
  have g1 : hget (H.push (.cells #[.int .i64 p, .slice a1 xs.length a2, .slice b1 ds.length b2] 28)) H.size 1 = some (.slice a1 xs.length a2) := by simp only [go_sem, ↓reduceIte, Nat.reduceEqDiff, Nat.reduceLeDiff, Nat.reduceAdd, Nat.reduceMul, Nat.reduceSub, Nat.reduceBEq, Nat.reduceGT, Nat.reduceLT, Int.reduceLE, Int.reduceLT, Int.reduceNeg, reduceCtorEq]
  have g2 : hget (H.push (.cells #[.int .i64 p, .slice a1 xs.length a2, .slice b1 ds.length b2] 28)) H.size 2 = some (.slice b1 ds.length b2) := by simp only [go_sem, ↓reduceIte, Nat.reduceEqDiff, Nat.reduceLeDiff, Nat.reduceAdd, Nat.reduceMul, Nat.reduceSub, Nat.reduceBEq, Nat.reduceGT, Nat.reduceLT, Int.reduceLE, Int.reduceLT, Int.reduceNeg, reduceCtorEq]
  have hsz : (H.push (.cells #[.int .i64 p, .slice a1 xs.length a2, .slice b1 ds.length b2] 28)).size = H.size + 1 := by simp
  simp only [go_sem, ↓reduceIte, Nat.reduceEqDiff, Nat.reduceLeDiff, Nat.reduceAdd, Nat.reduceMul, Nat.reduceSub, Nat.reduceBEq, Nat.reduceGT, Nat.reduceLT, Int.reduceLE, Int.reduceLT, Int.reduceNeg, reduceCtorEq]
  generalize hH : H.push (.cells #[.int .i64 p, .slice a1 xs.length a2, .slice b1 ds.length b2] 28) = H0 at *
  have hc0 : Chk H0 3 4 (.agg #[.int .i64 p, .slice a1 xs.length a2, .slice b1 ds.length b2]) p xs ds := hv'.ext x1
  refine FunI.by (F31 _ gen p xs ds H0 hc0) ?_
  rintro _ H1 ⟨rfl, hx1⟩
  cases hm : mayC gen p xs ds with
  | false =>
    simp only [go_sem, ↓reduceIte, Nat.reduceEqDiff, Nat.reduceLeDiff, Nat.reduceAdd, Nat.reduceMul, Nat.reduceSub, Nat.reduceBEq, Nat.reduceGT, Nat.reduceLT, Int.reduceLE, Int.reduceLT, Int.reduceNeg, reduceCtorEq, hm]
    refine ⟨x1.trans (hx1.mono x1.size), ?_⟩
    simp
  | true =>
    have hmay := hm
    simp only [mayC, decide_eq_true_eq] at hmay
    obtain ⟨m1, m2, m3, m4, m5, m6, m7⟩ := hmay
    have k1 : hget H1 H.size 1 = some (.slice a1 xs.length a2) := by rw [hx1.hget (by omega)]; exact g1
    simp only [go_sem, ↓reduceIte, Nat.reduceEqDiff, Nat.reduceLeDiff, Nat.reduceAdd, Nat.reduceMul, Nat.reduceSub, Nat.reduceBEq, Nat.reduceGT, Nat.reduceLT, Int.reduceLE, Int.reduceLT, Int.reduceNeg, reduceCtorEq, hm, k1]
    have hxt : Ext H H1 := x1.trans (hx1.mono x1.size)
    refine LoopI.by mixed (fun ρ H' => ∃ (v7 v8 : Value) (outs : List (List Int)) (rs : List Int), ρ 0 = .int .i64 gen ∧ ρ 3 = newP H ∧ ρ 7 = v7 ∧ ρ 8 = v8 ∧ OwnLists H' H1.size 53 5 v7 outs ∧ Ints H1 3 .i64 v8 rs ∧
      outs ++ pieces rs = pieces xs ∧ outs.length + rs.length ≤ 16777216 ∧ (∀ x ∈ rs, 0 ≤ x ∧ x < 16777216) ∧ Ext H1 H') (fun ρ _ => slen (ρ 8)) ?_ ?_
    · exact ⟨_, _, [], xs, by simp only [go_sem, ↓reduceIte, Nat.reduceEqDiff, Nat.reduceLeDiff, Nat.reduceAdd, Nat.reduceMul, Nat.reduceSub, Nat.reduceBEq, Nat.reduceGT, Nat.reduceLT, Int.reduceLE, Int.reduceLT, Int.reduceNeg, reduceCtorEq], by simp only [go_sem, ↓reduceIte, Nat.reduceEqDiff, Nat.reduceLeDiff, Nat.reduceAdd, Nat.reduceMul, Nat.reduceSub, Nat.reduceBEq, Nat.reduceGT, Nat.reduceLT, Int.reduceLE, Int.reduceLT, Int.reduceNeg, reduceCtorEq], rfl, rfl, by simp only [go_sem, ↓reduceIte, Nat.reduceEqDiff, Nat.reduceLeDiff, Nat.reduceAdd, Nat.reduceMul, Nat.reduceSub, Nat.reduceBEq, Nat.reduceGT, Nat.reduceLT, Int.reduceLE, Int.reduceLT, Int.reduceNeg, reduceCtorEq]; exact OwnLists.nil, by simp only [go_sem, ↓reduceIte, Nat.reduceEqDiff, Nat.reduceLeDiff, Nat.reduceAdd, Nat.reduceMul, Nat.reduceSub, Nat.reduceBEq, Nat.reduceGT, Nat.reduceLT, Int.reduceLE, Int.reduceLT, Int.reduceNeg, reduceCtorEq]; exact ha.ext hxt, by simp, by simpa using m5, m7, Upto.refl _ _⟩
    rintro ρ H2 ⟨v7, v8, outs, rs, e0, e3, e7, e8, ho, hr, hp, hl, hw, hx2⟩
    obtain ⟨r1, r2, rfl⟩ := hr.form
    by_cases hr0 : 0 < rs.length
    · have c1 : (0 : Int) < rs.length := by omega
      obtain ⟨rb, ro, rfl⟩ := hr.at hr0
      have hcap : rs.length ≤ r2 := Sl.lecap hr
      -- the piece, and what is left
      obtain ⟨n, hn⟩ : ∃ n : Nat, n = min rs.length 200 := ⟨_, rfl⟩
      have hmin : (if (200 : Int) < rs.length then (200 : Int) else rs.length) = (n : Int) := by split <;> omega
      have hn1 : n ≤ rs.length := by omega
      have hn2 : 0 < n := by omega
      simp only [go_sem, ↓reduceIte, Nat.reduceEqDiff, Nat.reduceLeDiff, Nat.reduceAdd, Nat.reduceMul, Nat.reduceSub, Nat.reduceBEq, Nat.reduceGT, Nat.reduceLT, Int.reduceLE, Int.reduceLT, Int.reduceNeg, reduceCtorEq, c11_L1, e3, e7, e8, c1, hmin]
      refine ⟨by omega, by omega, ?_⟩
      have hpc : Ints H1 3 .i64 (.slice (some ⟨rb, ro, none⟩) n n) (rs.take n) := by
        have h := Sl.sub (l := 0) (h := n) (m := n) hr (by omega) hn1 (by omega)
        simp only [Nat.zero_mul, List.drop_zero, Nat.sub_zero, Nat.mul_one, ← List.map_take] at h
        rw [if_neg (by omega)] at h
        exact h
      obtain ⟨v8', hv8⟩ : ∃ v, v = Value.slice (if r2 = n then some ⟨rb, ro, none⟩ else some ⟨rb, ro + n, none⟩) (rs.length - n) (r2 - n) := ⟨_, rfl⟩
      have hrest : Ints H1 3 .i64 v8' (rs.drop n) := by
        have h := Sl.sub (l := n) (h := rs.length) (m := r2) hr hn1 (Nat.le_refl _) hcap
        simp only [Nat.mul_one, ← List.map_drop, Option.map_some, add_none] at h
        rw [← hv8] at h
        have e : (List.map (Value.int .i64) (rs.drop n)).take (rs.length - n) = List.map (Value.int .i64) (rs.drop n) := List.take_of_length_le (by simp)
        rw [e] at h
        exact h
      rw [← hv8]
      refine LoopI.by mixed (fun σ H' => ∃ (j : Nat) (v11 : Value) (bs : List Int), σ 0 = .int .i64 gen ∧ σ 3 = newP H ∧ σ 7 = v7 ∧ σ 8 = v8' ∧ σ 36 = .slice (some ⟨rb, ro, none⟩) n n ∧ σ 37 = .int .i64 n ∧ σ 38 = .int .i64 j ∧ j ≤ n ∧ σ 11 = v11 ∧
        V.Own H' H2.size 5 1 v11 (bs.map (.int .u8)) ∧ bs = ((rs.take n).take j).flatMap vput ∧ Ext H2 H') (fun σ _ => n - (iof (σ 38)).toNat) ?_ ?_
      · exact ⟨0, _, [], by simp only [go_sem, ↓reduceIte, Nat.reduceEqDiff, Nat.reduceLeDiff, Nat.reduceAdd, Nat.reduceMul, Nat.reduceSub, Nat.reduceBEq, Nat.reduceGT, Nat.reduceLT, Int.reduceLE, Int.reduceLT, Int.reduceNeg, reduceCtorEq, e0], by simp only [go_sem, ↓reduceIte, Nat.reduceEqDiff, Nat.reduceLeDiff, Nat.reduceAdd, Nat.reduceMul, Nat.reduceSub, Nat.reduceBEq, Nat.reduceGT, Nat.reduceLT, Int.reduceLE, Int.reduceLT, Int.reduceNeg, reduceCtorEq, e3], by simp only [go_sem, ↓reduceIte, Nat.reduceEqDiff, Nat.reduceLeDiff, Nat.reduceAdd, Nat.reduceMul, Nat.reduceSub, Nat.reduceBEq, Nat.reduceGT, Nat.reduceLT, Int.reduceLE, Int.reduceLT, Int.reduceNeg, reduceCtorEq, e7], by simp only [go_sem, ↓reduceIte, Nat.reduceEqDiff, Nat.reduceLeDiff, Nat.reduceAdd, Nat.reduceMul, Nat.reduceSub, Nat.reduceBEq, Nat.reduceGT, Nat.reduceLT, Int.reduceLE, Int.reduceLT, Int.reduceNeg, reduceCtorEq], by simp only [go_sem, ↓reduceIte, Nat.reduceEqDiff, Nat.reduceLeDiff, Nat.reduceAdd, Nat.reduceMul, Nat.reduceSub, Nat.reduceBEq, Nat.reduceGT, Nat.reduceLT, Int.reduceLE, Int.reduceLT, Int.reduceNeg, reduceCtorEq], by simp only [go_sem, ↓reduceIte, Nat.reduceEqDiff, Nat.reduceLeDiff, Nat.reduceAdd, Nat.reduceMul, Nat.reduceSub, Nat.reduceBEq, Nat.reduceGT, Nat.reduceLT, Int.reduceLE, Int.reduceLT, Int.reduceNeg, reduceCtorEq], by simp only [go_sem, ↓reduceIte, Nat.reduceEqDiff, Nat.reduceLeDiff, Nat.reduceAdd, Nat.reduceMul, Nat.reduceSub, Nat.reduceBEq, Nat.reduceGT, Nat.reduceLT, Int.reduceLE, Int.reduceLT, Int.reduceNeg, reduceCtorEq]; rfl, by omega, rfl, by simp only [go_sem, ↓reduceIte, Nat.reduceEqDiff, Nat.reduceLeDiff, Nat.reduceAdd, Nat.reduceMul, Nat.reduceSub, Nat.reduceBEq, Nat.reduceGT, Nat.reduceLT, Int.reduceLE, Int.reduceLT, Int.reduceNeg, reduceCtorEq]; exact V.Own.nil, by simp, Upto.refl _ _⟩
      rintro σ H3 ⟨j, v11, bs, f0, f3, f7, f8, e36, e37, e38, hj, e11, hob, hbs, hx3⟩
      by_cases hjn : j < n
      · have c1 : (j : Int) < n := by omega
        have c0 : (0 : Int) ≤ j := by omega
        have hpl : (rs.take n).length = n := by simp; omega
        have gj := (hpc.ext (hx2.trans (hx3.mono hx2.size))).get (i := j) (by omega)
        have hxj := hw _ (List.mem_of_mem_take (mem_getD (xs := rs.take n) (i := j) (by omega) (0 : Int)))
        have hfl := flat_v (xs := (rs.take n).take j) (fun y hy => hw y (List.mem_of_mem_take (List.mem_of_mem_take hy)))
        have hjl : ((rs.take n).take j).length ≤ 200 := by simp; omega
        simp only [go_sem, ↓reduceIte, Nat.reduceEqDiff, Nat.reduceLeDiff, Nat.reduceAdd, Nat.reduceMul, Nat.reduceSub, Nat.reduceBEq, Nat.reduceGT, Nat.reduceLT, Int.reduceLE, Int.reduceLT, Int.reduceNeg, reduceCtorEq, c11_L0, e11, e36, e37, e38, c0, c1, gj]
        refine FunI.by (F32 (.slice none 0 0) [] _ H3 Ints.nil (by simp) (by omega)) ?_
        rintro u H4 ⟨hu, hx4⟩
        simp only [go_sem, ↓reduceIte, Nat.reduceEqDiff, Nat.reduceLeDiff, Nat.reduceAdd, Nat.reduceMul, Nat.reduceSub, Nat.reduceBEq, Nat.reduceGT, Nat.reduceLT, Int.reduceLE, Int.reduceLT, Int.reduceNeg, reduceCtorEq, e11]
        have hul : (vput ((rs.take n).getD j 0)).length ≤ 9 := by rw [vput_len]; exact vlen_9 (by omega)
        refine RunI.by (append_bytes (hob.ext hx4) (show Ints H4 5 .u8 u _ from hu.sl) (Nat.le_trans hx3.size hx4.size) (by rw [hbs]; simp only [List.nil_append]; omega)) ?_
        rintro v11' H5 ⟨ho5, hx5⟩
        simp only [go_sem, ↓reduceIte, Nat.reduceEqDiff, Nat.reduceLeDiff, Nat.reduceAdd, Nat.reduceMul, Nat.reduceSub, Nat.reduceBEq, Nat.reduceGT, Nat.reduceLT, Int.reduceLE, Int.reduceLT, Int.reduceNeg, reduceCtorEq, e38]
        rw [w64_id (by omega) (by omega)]
        refine ⟨Hold.mk ⟨j + 1, v11', _, by simp only [go_sem, ↓reduceIte, Nat.reduceEqDiff, Nat.reduceLeDiff, Nat.reduceAdd, Nat.reduceMul, Nat.reduceSub, Nat.reduceBEq, Nat.reduceGT, Nat.reduceLT, Int.reduceLE, Int.reduceLT, Int.reduceNeg, reduceCtorEq, f0], by simp only [go_sem, ↓reduceIte, Nat.reduceEqDiff, Nat.reduceLeDiff, Nat.reduceAdd, Nat.reduceMul, Nat.reduceSub, Nat.reduceBEq, Nat.reduceGT, Nat.reduceLT, Int.reduceLE, Int.reduceLT, Int.reduceNeg, reduceCtorEq, f3], by simp only [go_sem, ↓reduceIte, Nat.reduceEqDiff, Nat.reduceLeDiff, Nat.reduceAdd, Nat.reduceMul, Nat.reduceSub, Nat.reduceBEq, Nat.reduceGT, Nat.reduceLT, Int.reduceLE, Int.reduceLT, Int.reduceNeg, reduceCtorEq, f7], by simp only [go_sem, ↓reduceIte, Nat.reduceEqDiff, Nat.reduceLeDiff, Nat.reduceAdd, Nat.reduceMul, Nat.reduceSub, Nat.reduceBEq, Nat.reduceGT, Nat.reduceLT, Int.reduceLE, Int.reduceLT, Int.reduceNeg, reduceCtorEq, f8], by simp only [go_sem, ↓reduceIte, Nat.reduceEqDiff, Nat.reduceLeDiff, Nat.reduceAdd, Nat.reduceMul, Nat.reduceSub, Nat.reduceBEq, Nat.reduceGT, Nat.reduceLT, Int.reduceLE, Int.reduceLT, Int.reduceNeg, reduceCtorEq, e36], by simp only [go_sem, ↓reduceIte, Nat.reduceEqDiff, Nat.reduceLeDiff, Nat.reduceAdd, Nat.reduceMul, Nat.reduceSub, Nat.reduceBEq, Nat.reduceGT, Nat.reduceLT, Int.reduceLE, Int.reduceLT, Int.reduceNeg, reduceCtorEq, e37], by simp only [go_sem, ↓reduceIte, Nat.reduceEqDiff, Nat.reduceLeDiff, Nat.reduceAdd, Nat.reduceMul, Nat.reduceSub, Nat.reduceBEq, Nat.reduceGT, Nat.reduceLT, Int.reduceLE, Int.reduceLT, Int.reduceNeg, reduceCtorEq]; rfl, by omega, by simp only [go_sem, ↓reduceIte, Nat.reduceEqDiff, Nat.reduceLeDiff, Nat.reduceAdd, Nat.reduceMul, Nat.reduceSub, Nat.reduceBEq, Nat.reduceGT, Nat.reduceLT, Int.reduceLE, Int.reduceLT, Int.reduceNeg, reduceCtorEq], ho5, ?_, (hx3.trans (hx4.mono hx3.size)).trans hx5⟩, by omega⟩
        rw [take_succ_getD (xs := rs.take n) (by omega) 0, List.flatMap_append, hbs]
        simp
      · have c1 : ¬ (j : Int) < n := by omega
        have hjn' : j = n := by omega
        subst hjn'
        have hbs' : bs = (rs.take j).flatMap vput := by rw [hbs, List.take_take, Nat.min_self]
        obtain ⟨_, _, rfl⟩ := (show Ints H3 5 .u8 v11 bs from hob.sl).form
        simp only [go_sem, ↓reduceIte, Nat.reduceEqDiff, Nat.reduceLeDiff, Nat.reduceAdd, Nat.reduceMul, Nat.reduceSub, Nat.reduceBEq, Nat.reduceGT, Nat.reduceLT, Int.reduceLE, Int.reduceLT, Int.reduceNeg, reduceCtorEq, c11_L0, f7, f8, e11, e38, e37, c1]
        refine RunI.by (append_list ty32 ty53 (by decide) ho hx3 hob hx2.size (by omega)) ?_
        rintro v7' H4 ⟨ho4, hx4⟩
        simp only [go_sem, ↓reduceIte, Nat.reduceEqDiff, Nat.reduceLeDiff, Nat.reduceAdd, Nat.reduceMul, Nat.reduceSub, Nat.reduceBEq, Nat.reduceGT, Nat.reduceLT, Int.reduceLE, Int.reduceLT, Int.reduceNeg, reduceCtorEq, f8, e8]
        have hpr := pieces_cons hr0
        have htk : rs.take 200 = rs.take j := by
          by_cases h : rs.length ≤ 200
          · rw [List.take_of_length_le h, List.take_of_length_le (by omega)]
          · rw [show j = 200 by omega]
        have hdr : rs.drop 200 = rs.drop j := by
          by_cases h : rs.length ≤ 200
          · rw [List.drop_of_length_le h, List.drop_of_length_le (by omega)]
          · rw [show j = 200 by omega]
        refine ⟨Hold.mk ⟨v7', v8', outs ++ [bs], rs.drop j, by simp only [go_sem, ↓reduceIte, Nat.reduceEqDiff, Nat.reduceLeDiff, Nat.reduceAdd, Nat.reduceMul, Nat.reduceSub, Nat.reduceBEq, Nat.reduceGT, Nat.reduceLT, Int.reduceLE, Int.reduceLT, Int.reduceNeg, reduceCtorEq, f0], by simp only [go_sem, ↓reduceIte, Nat.reduceEqDiff, Nat.reduceLeDiff, Nat.reduceAdd, Nat.reduceMul, Nat.reduceSub, Nat.reduceBEq, Nat.reduceGT, Nat.reduceLT, Int.reduceLE, Int.reduceLT, Int.reduceNeg, reduceCtorEq, f3], by simp only [go_sem, ↓reduceIte, Nat.reduceEqDiff, Nat.reduceLeDiff, Nat.reduceAdd, Nat.reduceMul, Nat.reduceSub, Nat.reduceBEq, Nat.reduceGT, Nat.reduceLT, Int.reduceLE, Int.reduceLT, Int.reduceNeg, reduceCtorEq], by simp only [go_sem, ↓reduceIte, Nat.reduceEqDiff, Nat.reduceLeDiff, Nat.reduceAdd, Nat.reduceMul, Nat.reduceSub, Nat.reduceBEq, Nat.reduceGT, Nat.reduceLT, Int.reduceLE, Int.reduceLT, Int.reduceNeg, reduceCtorEq, f8], ho4, hrest, ?_, ?_, fun x hx => hw x (List.mem_of_mem_drop hx), hx2.trans ((hx3.mono hx2.size).trans hx4)⟩, ?_⟩
        · rw [← hp, hpr, htk, hdr, hbs']
          simp
        · simp; omega
        · subst hv8
          simp only [slen]
          omega
    · have c1 : ¬ (0 : Int) < rs.length := by omega
      have hrs0 : rs.length = 0 := by omega
      rw [pieces_zero hrs0, List.append_nil] at hp
      have q0 : ∀ {H' : Heap}, Ext H1 H' → hget H' H.size 0 = some (.int .i64 p) := fun h => by rw [h.hget (by have := hx1.size; omega), hx1.hget (by omega)]; exact g0
      have q1 : ∀ {H' : Heap}, Ext H1 H' → hget H' H.size 1 = some (.slice a1 xs.length a2) := fun h => by rw [h.hget (by have := hx1.size; omega), hx1.hget (by omega)]; exact g1
      have q2 : ∀ {H' : Heap}, Ext H1 H' → hget H' H.size 2 = some (.slice b1 ds.length b2) := fun h => by rw [h.hget (by have := hx1.size; omega), hx1.hget (by omega)]; exact g2
      -- the end: the head
      have fin : ∀ (v7' : Value) (data : List (List Int)) (H3 : Heap), OwnLists H3 H1.size 53 5 v7' data → Ext H1 H3 → data = chkData xs ds →
          Fun Tryz.prog 33 #[.agg #[.int .i64 gen, .int .i64 p, .int .i64 xs.length, .int .i64 ds.length]] H3 (fun h H4 => Ext H H4 ∧ V.Own H4 H.size 5 1 h ((chkHead gen p xs ds).map (.int .u8)) ∧ OwnLists H4 H.size 53 5 v7' (chkData xs ds)) := by
        intro v7' data H3 hd hx3 hdata
        refine (F33 gen p xs.length ds.length H3 (by omega) (by omega) (by omega) (by omega)).mono ?_
        rintro h H4 ⟨h1, hx4⟩
        have hxa : Ext H H3 := hxt.trans (hx3.mono hxt.size)
        refine ⟨hxa.trans (hx4.mono hxa.size), h1.mono hxa.size, ?_⟩
        subst hdata
        obtain ⟨vs, w1, w2, w3⟩ := hd.ext hx4
        exact ⟨vs, w1.mono hxt.size, w2.mono fun _ _ h => h.mono hxt.size, w3⟩
      by_cases hd0 : ds.length = 0
      · have c2 : ¬ (0 : Int) < ds.length := by omega
        simp only [go_sem, ↓reduceIte, Nat.reduceEqDiff, Nat.reduceLeDiff, Nat.reduceAdd, Nat.reduceMul, Nat.reduceSub, Nat.reduceBEq, Nat.reduceGT, Nat.reduceLT, Int.reduceLE, Int.reduceLT, Int.reduceNeg, reduceCtorEq, c11_L1, e0, e3, e7, e8, c1, c2, q0 hx2, q1 hx2, q2 hx2]
        refine FunI.by (fin v7 _ H2 ho hx2 (by simp [chkData, hd0, hp])) ?_
        rintro h H4 ⟨w1, w2, w3⟩
        simp only [go_sem, ↓reduceIte, Nat.reduceEqDiff, Nat.reduceLeDiff, Nat.reduceAdd, Nat.reduceMul, Nat.reduceSub, Nat.reduceBEq, Nat.reduceGT, Nat.reduceLT, Int.reduceLE, Int.reduceLT, Int.reduceNeg, reduceCtorEq, e7, hm]
        exact ⟨w1, .inr ⟨h, v7, rfl, w2, w3⟩⟩
      · have c2 : (0 : Int) < ds.length := by omega
        have hxp : ∀ {x : Obj}, Ext H1 (H2.push x) := fun {x} => hx2.trans ((Ext.push x).mono hx2.size)
        simp only [go_sem, ↓reduceIte, Nat.reduceEqDiff, Nat.reduceLeDiff, Nat.reduceAdd, Nat.reduceMul, Nat.reduceSub, Nat.reduceBEq, Nat.reduceGT, Nat.reduceLT, Int.reduceLE, Int.reduceLT, Int.reduceNeg, reduceCtorEq, c11_L1, e0, e3, e7, e8, c1, c2, q2 hx2, q2 hxp]
        refine ⟨by omega, by omega, by omega, by omega, ?_⟩
        refine LoopI.by mixed (fun σ H' => ∃ (j : Nat), σ 0 = .int .i64 gen ∧ σ 3 = newP H ∧ σ 7 = v7 ∧ σ 14 = .slice (some ⟨H2.size, 0, none⟩) ds.length ds.length ∧ σ 60 = .slice b1 ds.length b2 ∧ σ 61 = .int .i64 ds.length ∧ σ 62 = .int .i64 j ∧ j ≤ ds.length ∧
          V.Own H' H2.size 5 1 (.slice (some ⟨H2.size, 0, none⟩) ds.length ds.length) (((ds.take j).map b2i ++ List.replicate (ds.length - j) 0).map (.int .u8)) ∧ Ext H2 H') (fun σ _ => ds.length - (iof (σ 62)).toNat) ?_ ?_
        · have hown := V.Own.made (H := H2) (B := H2.size) (e := 5) (sz := 1) (l := ds.length) (c := ds.length) (z := .int .u8 0) (Nat.le_refl _) (Nat.le_refl _) (by omega)
          rw [Nat.mul_one, zrow_one rfl, List.take_of_length_le (by simp)] at hown
          refine ⟨0, by simp only [go_sem, ↓reduceIte, Nat.reduceEqDiff, Nat.reduceLeDiff, Nat.reduceAdd, Nat.reduceMul, Nat.reduceSub, Nat.reduceBEq, Nat.reduceGT, Nat.reduceLT, Int.reduceLE, Int.reduceLT, Int.reduceNeg, reduceCtorEq, e0], by simp only [go_sem, ↓reduceIte, Nat.reduceEqDiff, Nat.reduceLeDiff, Nat.reduceAdd, Nat.reduceMul, Nat.reduceSub, Nat.reduceBEq, Nat.reduceGT, Nat.reduceLT, Int.reduceLE, Int.reduceLT, Int.reduceNeg, reduceCtorEq, e3], by simp only [go_sem, ↓reduceIte, Nat.reduceEqDiff, Nat.reduceLeDiff, Nat.reduceAdd, Nat.reduceMul, Nat.reduceSub, Nat.reduceBEq, Nat.reduceGT, Nat.reduceLT, Int.reduceLE, Int.reduceLT, Int.reduceNeg, reduceCtorEq, e7], by simp only [go_sem, ↓reduceIte, Nat.reduceEqDiff, Nat.reduceLeDiff, Nat.reduceAdd, Nat.reduceMul, Nat.reduceSub, Nat.reduceBEq, Nat.reduceGT, Nat.reduceLT, Int.reduceLE, Int.reduceLT, Int.reduceNeg, reduceCtorEq], by simp only [go_sem, ↓reduceIte, Nat.reduceEqDiff, Nat.reduceLeDiff, Nat.reduceAdd, Nat.reduceMul, Nat.reduceSub, Nat.reduceBEq, Nat.reduceGT, Nat.reduceLT, Int.reduceLE, Int.reduceLT, Int.reduceNeg, reduceCtorEq], by simp only [go_sem, ↓reduceIte, Nat.reduceEqDiff, Nat.reduceLeDiff, Nat.reduceAdd, Nat.reduceMul, Nat.reduceSub, Nat.reduceBEq, Nat.reduceGT, Nat.reduceLT, Int.reduceLE, Int.reduceLT, Int.reduceNeg, reduceCtorEq], by simp only [go_sem, ↓reduceIte, Nat.reduceEqDiff, Nat.reduceLeDiff, Nat.reduceAdd, Nat.reduceMul, Nat.reduceSub, Nat.reduceBEq, Nat.reduceGT, Nat.reduceLT, Int.reduceLE, Int.reduceLT, Int.reduceNeg, reduceCtorEq]; rfl, by omega, ?_, Ext.push _⟩
          simp only [go_sem, ↓reduceIte, Nat.reduceEqDiff, Nat.reduceLeDiff, Nat.reduceAdd, Nat.reduceMul, Nat.reduceSub, Nat.reduceBEq, Nat.reduceGT, Nat.reduceLT, Int.reduceLE, Int.reduceLT, Int.reduceNeg, reduceCtorEq]
          simpa using hown
        rintro σ H3 ⟨j, f0, f3, f7, e14, e60, e61, e62, hj, hob, hx3⟩
        by_cases hjn : j < ds.length
        · have c1 : (j : Int) < ds.length := by omega
          have c0 : (0 : Int) ≤ j := by omega
          obtain ⟨bb, bo, rfl⟩ := hb.at hjn
          have gj := (hb.ext (hxt.trans (((hx2.trans (hx3.mono hx2.size)).mono hxt.size)))).get hjn
          have hst := hob.store hjn (.int .u8 1)
          obtain ⟨_, hcan1, ho1, hbut, hlen⟩ := hst
          rw [Nat.zero_add] at hcan1 ho1 hbut
          cases hdj : ds.getD j false with
          | false =>
            simp only [go_sem, ↓reduceIte, Nat.reduceEqDiff, Nat.reduceLeDiff, Nat.reduceAdd, Nat.reduceMul, Nat.reduceSub, Nat.reduceBEq, Nat.reduceGT, Nat.reduceLT, Int.reduceLE, Int.reduceLT, Int.reduceNeg, reduceCtorEq, c11_L2, e60, e61, e62, c0, c1, gj, hdj]
            rw [w64_id (by omega) (by omega)]
            refine ⟨Hold.mk ⟨j + 1, by simp only [go_sem, ↓reduceIte, Nat.reduceEqDiff, Nat.reduceLeDiff, Nat.reduceAdd, Nat.reduceMul, Nat.reduceSub, Nat.reduceBEq, Nat.reduceGT, Nat.reduceLT, Int.reduceLE, Int.reduceLT, Int.reduceNeg, reduceCtorEq, f0], by simp only [go_sem, ↓reduceIte, Nat.reduceEqDiff, Nat.reduceLeDiff, Nat.reduceAdd, Nat.reduceMul, Nat.reduceSub, Nat.reduceBEq, Nat.reduceGT, Nat.reduceLT, Int.reduceLE, Int.reduceLT, Int.reduceNeg, reduceCtorEq, f3], by simp only [go_sem, ↓reduceIte, Nat.reduceEqDiff, Nat.reduceLeDiff, Nat.reduceAdd, Nat.reduceMul, Nat.reduceSub, Nat.reduceBEq, Nat.reduceGT, Nat.reduceLT, Int.reduceLE, Int.reduceLT, Int.reduceNeg, reduceCtorEq, f7], by simp only [go_sem, ↓reduceIte, Nat.reduceEqDiff, Nat.reduceLeDiff, Nat.reduceAdd, Nat.reduceMul, Nat.reduceSub, Nat.reduceBEq, Nat.reduceGT, Nat.reduceLT, Int.reduceLE, Int.reduceLT, Int.reduceNeg, reduceCtorEq, e14], by simp only [go_sem, ↓reduceIte, Nat.reduceEqDiff, Nat.reduceLeDiff, Nat.reduceAdd, Nat.reduceMul, Nat.reduceSub, Nat.reduceBEq, Nat.reduceGT, Nat.reduceLT, Int.reduceLE, Int.reduceLT, Int.reduceNeg, reduceCtorEq, e60], by simp only [go_sem, ↓reduceIte, Nat.reduceEqDiff, Nat.reduceLeDiff, Nat.reduceAdd, Nat.reduceMul, Nat.reduceSub, Nat.reduceBEq, Nat.reduceGT, Nat.reduceLT, Int.reduceLE, Int.reduceLT, Int.reduceNeg, reduceCtorEq, e61], by simp only [go_sem, ↓reduceIte, Nat.reduceEqDiff, Nat.reduceLeDiff, Nat.reduceAdd, Nat.reduceMul, Nat.reduceSub, Nat.reduceBEq, Nat.reduceGT, Nat.reduceLT, Int.reduceLE, Int.reduceLT, Int.reduceNeg, reduceCtorEq]; rfl, by omega, ?_, hx3⟩, by omega⟩
            rw [take_succ_getD hjn false, hdj]
            rw [show ds.length - j = (ds.length - (j + 1)) + 1 by omega, List.replicate_succ] at hob
            simpa [b2i] using hob
          | true =>
            simp only [go_sem, ↓reduceIte, Nat.reduceEqDiff, Nat.reduceLeDiff, Nat.reduceAdd, Nat.reduceMul, Nat.reduceSub, Nat.reduceBEq, Nat.reduceGT, Nat.reduceLT, Int.reduceLE, Int.reduceLT, Int.reduceNeg, reduceCtorEq, c11_L2, e14, e60, e61, e62, c0, c1, gj, hdj]
            rw [w64_id (by omega) (by omega)]
            refine ⟨rfl, hcan1, Hold.mk ⟨j + 1, by simp only [go_sem, ↓reduceIte, Nat.reduceEqDiff, Nat.reduceLeDiff, Nat.reduceAdd, Nat.reduceMul, Nat.reduceSub, Nat.reduceBEq, Nat.reduceGT, Nat.reduceLT, Int.reduceLE, Int.reduceLT, Int.reduceNeg, reduceCtorEq, f0], by simp only [go_sem, ↓reduceIte, Nat.reduceEqDiff, Nat.reduceLeDiff, Nat.reduceAdd, Nat.reduceMul, Nat.reduceSub, Nat.reduceBEq, Nat.reduceGT, Nat.reduceLT, Int.reduceLE, Int.reduceLT, Int.reduceNeg, reduceCtorEq, f3], by simp only [go_sem, ↓reduceIte, Nat.reduceEqDiff, Nat.reduceLeDiff, Nat.reduceAdd, Nat.reduceMul, Nat.reduceSub, Nat.reduceBEq, Nat.reduceGT, Nat.reduceLT, Int.reduceLE, Int.reduceLT, Int.reduceNeg, reduceCtorEq, f7], by simp only [go_sem, ↓reduceIte, Nat.reduceEqDiff, Nat.reduceLeDiff, Nat.reduceAdd, Nat.reduceMul, Nat.reduceSub, Nat.reduceBEq, Nat.reduceGT, Nat.reduceLT, Int.reduceLE, Int.reduceLT, Int.reduceNeg, reduceCtorEq, e14], by simp only [go_sem, ↓reduceIte, Nat.reduceEqDiff, Nat.reduceLeDiff, Nat.reduceAdd, Nat.reduceMul, Nat.reduceSub, Nat.reduceBEq, Nat.reduceGT, Nat.reduceLT, Int.reduceLE, Int.reduceLT, Int.reduceNeg, reduceCtorEq, e60], by simp only [go_sem, ↓reduceIte, Nat.reduceEqDiff, Nat.reduceLeDiff, Nat.reduceAdd, Nat.reduceMul, Nat.reduceSub, Nat.reduceBEq, Nat.reduceGT, Nat.reduceLT, Int.reduceLE, Int.reduceLT, Int.reduceNeg, reduceCtorEq, e61], by simp only [go_sem, ↓reduceIte, Nat.reduceEqDiff, Nat.reduceLeDiff, Nat.reduceAdd, Nat.reduceMul, Nat.reduceSub, Nat.reduceBEq, Nat.reduceGT, Nat.reduceLT, Int.reduceLE, Int.reduceLT, Int.reduceNeg, reduceCtorEq]; rfl, by omega, ?_, hx3.trans (hbut.upto (fun k hk => by cases hk; exact Nat.le_refl _) hx3.size)⟩, by omega⟩
            rw [take_succ_getD hjn false, hdj]
            rw [show ds.length - j = (ds.length - (j + 1)) + 1 by omega, List.replicate_succ] at ho1
            simpa [b2i, List.set_append, show min j ds.length = j by omega] using ho1
        · have c1 : ¬ (j : Int) < ds.length := by omega
          have hjn' : j = ds.length := by omega
          subst hjn'
          simp only [go_sem, ↓reduceIte, Nat.reduceEqDiff, Nat.reduceLeDiff, Nat.reduceAdd, Nat.reduceMul, Nat.reduceSub, Nat.reduceBEq, Nat.reduceGT, Nat.reduceLT, Int.reduceLE, Int.reduceLT, Int.reduceNeg, reduceCtorEq, c11_L2, f0, f3, f7, e14, e60, e61, e62, c1]
          have hob2 : V.Own H3 H2.size 5 1 (.slice (some ⟨H2.size, 0, none⟩) ds.length ds.length) ((ds.map b2i).map (.int .u8)) := by simpa using hob
          refine RunI.by (append_list ty32 ty53 (by decide) ho hx3 hob2 hx2.size (by omega)) ?_
          rintro v7' H4 ⟨ho4, hx4⟩
          have hx5 : Ext H1 H4 := hx2.trans ((hx3.mono hx2.size).trans hx4)
          simp only [go_sem, ↓reduceIte, Nat.reduceEqDiff, Nat.reduceLeDiff, Nat.reduceAdd, Nat.reduceMul, Nat.reduceSub, Nat.reduceBEq, Nat.reduceGT, Nat.reduceLT, Int.reduceLE, Int.reduceLT, Int.reduceNeg, reduceCtorEq, f0, f3, q0 hx5, q1 hx5, q2 hx5]
          refine FunI.by (fin v7' _ H4 ho4 hx5 (by simp [chkData, hd0, hp])) ?_
          rintro h H5 ⟨w1, w2, w3⟩
          simp only [go_sem, ↓reduceIte, Nat.reduceEqDiff, Nat.reduceLeDiff, Nat.reduceAdd, Nat.reduceMul, Nat.reduceSub, Nat.reduceBEq, Nat.reduceGT, Nat.reduceLT, Int.reduceLE, Int.reduceLT, Int.reduceNeg, reduceCtorEq, hm]
          exact ⟨w1, .inr ⟨h, v7', rfl, w2, w3⟩⟩
end Go.Proofs.YtgigigchjnnonaaGreatDoor
