/- Names; what a call begins with; operations counted; what is told. -/
import Derived.Test.YtgigigchjnnonaaGreatDoorVFsH
set_option linter.unusedSimpArgs false
set_option linter.unusedVariables false
set_option maxRecDepth 20000
namespace Go.V
open Go
section
variable {P : Program} {t k e sz by' : Nat} {z : Value}
theorem und_map (h : tyOf P t = some ⟨.map k e, sz, by', z⟩) : P.underlying t = some (.map k e) := by
  obtain ⟨⟨d, hd, hk⟩, _⟩ := tyOf_ok P _ _ h
  rw [hd, V.K.of_map hk]
theorem und_str (h : tyOf P t = some ⟨.str, sz, by', z⟩) : P.underlying t = some .string := by
  obtain ⟨⟨d, hd, hk⟩, _⟩ := tyOf_ok P _ _ h
  rw [hd, V.K.of_str hk]
theorem und_ptr (h : tyOf P t = some ⟨.ptr e, sz, by', z⟩) : P.underlying t = some (.pointer e) := by
  obtain ⟨⟨d, hd, hk⟩, _⟩ := tyOf_ok P _ _ h
  rw [hd, V.K.of_ptr hk]
theorem zero_ty {k : K} (h : tyOf P t = some ⟨k, sz, by', z⟩) (w : World) : (zeroValue t).run P w = .ok z w := (tyOf_ok P).zero h w
theorem info_ty {k : K} (h : tyOf P t = some ⟨k, sz, by', z⟩) : ∃ j, P.info? t = some j ∧ j.size = sz := by
  obtain ⟨_, j, hj, h1, _⟩ := tyOf_ok P _ _ h
  exact ⟨j, hj, h1⟩
end
end Go.V
namespace Go.Proofs.YtgigigchjnnonaaGreatDoor
open Go Go.V

theorem okCh_get (s : Nm) (i : Nat) (hi : i < s.size) : s.data.getD i 0 = s.data.toList.getD i 0 := by
  have : i < s.data.size := hi
  simp [Array.getD_eq_getD_getElem?, List.getD_eq_getElem?_getD]
theorem okCh_iff (c : UInt8) : okCh c = !(!decide (((c.toNat : Nat) : Int) = 46) && (decide (((c.toNat : Nat) : Int) < 97) || decide (122 < ((c.toNat : Nat) : Int))) && (decide (((c.toNat : Nat) : Int) < 48) || decide (57 < ((c.toNat : Nat) : Int)))) := by
  have e1 : decide (((c.toNat : Nat) : Int) = 46) = decide (c = 46) := by
    rw [decide_eq_decide, ← UInt8.toNat_inj]; exact ⟨fun h => by show c.toNat = 46; omega, fun h => by have : c.toNat = 46 := h; omega⟩
  have e2 : decide (((c.toNat : Nat) : Int) < 97) = decide (c < 97) := by rw [decide_eq_decide, UInt8.lt_iff_toNat_lt]; show _ ↔ c.toNat < 97; omega
  have e3 : decide (122 < ((c.toNat : Nat) : Int)) = decide (122 < c) := by rw [decide_eq_decide, UInt8.lt_iff_toNat_lt]; show _ ↔ 122 < c.toNat; omega
  have e4 : decide (((c.toNat : Nat) : Int) < 48) = decide (c < 48) := by rw [decide_eq_decide, UInt8.lt_iff_toNat_lt]; show _ ↔ c.toNat < 48; omega
  have e5 : decide (57 < ((c.toNat : Nat) : Int)) = decide (57 < c) := by rw [decide_eq_decide, UInt8.lt_iff_toNat_lt]; show _ ↔ 57 < c.toNat; omega
  rw [e1, e2, e3, e4, e5]
  unfold okCh
  simp
set_option maxHeartbeats 1600000 in
theorem F268 (s : Nm) (H : Heap) : Fun Tryz.prog 268 #[.string s] H (fun r H' => r = .bool (isNm s) ∧ H = H') := by
  refine fun_of mixed (args := [_]) Tryz.func268 Tryz.ntmps268 b268 r268 rfl ?_
  by_cases h0 : s.size = 0
  · have e : isNm s = false := by unfold isNm; simp [h0]
    have c1 : ((0 : Nat) : Int) < 1 := by omega
    simp only [go_sem, ↓reduceIte, Nat.reduceEqDiff, Nat.reduceLeDiff, Nat.reduceAdd, Nat.reduceMul, Nat.reduceSub, Nat.reduceBEq, Nat.reduceGT, Nat.reduceLT, Int.reduceLE, Int.reduceLT, Int.reduceNeg, reduceCtorEq, h0, c1, e]
  by_cases h1 : 64 < s.size
  · have e : isNm s = false := by
      unfold isNm
      have : ¬ (1 ≤ s.size ∧ s.size ≤ 64) := by omega
      simp [this]
    have c1 : ¬ ((s.size : Int) < 1) := by omega
    have c2 : (64 : Int) < s.size := by omega
    simp only [go_sem, ↓reduceIte, Nat.reduceEqDiff, Nat.reduceLeDiff, Nat.reduceAdd, Nat.reduceMul, Nat.reduceSub, Nat.reduceBEq, Nat.reduceGT, Nat.reduceLT, Int.reduceLE, Int.reduceLT, Int.reduceNeg, reduceCtorEq, c1, c2, e]
  have c1 : ¬ ((s.size : Int) < 1) := by omega
  have c2 : ¬ (64 : Int) < s.size := by omega
  have hd : decide (1 ≤ s.size ∧ s.size ≤ 64) = true := by rw [decide_eq_true_eq]; omega
  simp only [go_sem, ↓reduceIte, Nat.reduceEqDiff, Nat.reduceLeDiff, Nat.reduceAdd, Nat.reduceMul, Nat.reduceSub, Nat.reduceBEq, Nat.reduceGT, Nat.reduceLT, Int.reduceLE, Int.reduceLT, Int.reduceNeg, reduceCtorEq, c1, c2]
  refine LoopI.by mixed (fun ρ H' => ∃ i : Nat, ρ 0 = .string s ∧ ρ 14 = .int .i64 s.size ∧ ρ 15 = .int .i64 i ∧ i ≤ s.size ∧ (∀ j, j < i → okCh (s.data.toList.getD j 0) = true) ∧ H = H') (fun ρ _ => s.size - (iof (ρ 15)).toNat) ?_ ?_
  · exact ⟨0, by simp only [go_sem, ↓reduceIte, Nat.reduceEqDiff, Nat.reduceLeDiff, Nat.reduceAdd, Nat.reduceMul, Nat.reduceSub, Nat.reduceBEq, Nat.reduceGT, Nat.reduceLT, Int.reduceLE, Int.reduceLT, Int.reduceNeg, reduceCtorEq], by simp only [go_sem, ↓reduceIte, Nat.reduceEqDiff, Nat.reduceLeDiff, Nat.reduceAdd, Nat.reduceMul, Nat.reduceSub, Nat.reduceBEq, Nat.reduceGT, Nat.reduceLT, Int.reduceLE, Int.reduceLT, Int.reduceNeg, reduceCtorEq], by simp only [go_sem, ↓reduceIte, Nat.reduceEqDiff, Nat.reduceLeDiff, Nat.reduceAdd, Nat.reduceMul, Nat.reduceSub, Nat.reduceBEq, Nat.reduceGT, Nat.reduceLT, Int.reduceLE, Int.reduceLT, Int.reduceNeg, reduceCtorEq]; rfl, by omega, by omega, rfl⟩
  rintro ρ H1 ⟨i, e0, e14, e15, hi, hall, rfl⟩
  by_cases hlt : i < s.size
  · have z0 : (0 : Int) ≤ i := by omega
    have z1 : (i : Int) < s.size := by omega
    have w1 : IntKind.i64.wrap ((i : Int) + 1) = ((i + 1 : Nat) : Int) := by rw [w64_id (by omega) (by omega)]; omega
    obtain ⟨c, hc⟩ : ∃ c, c = s.data.toList.getD i 0 := ⟨_, rfl⟩
    have hk := okCh_iff c
    have hno : okCh c = false → isNm s = false := fun hb => by
      unfold isNm
      rw [Bool.and_eq_false_iff]
      right
      rw [List.all_eq_false]
      refine ⟨c, ?_, by rw [hb]; simp⟩
      rw [hc, List.getD_eq_getElem?_getD, List.getElem?_eq_getElem (by simpa using hlt)]
      exact List.getElem_mem _
    have hyes : okCh c = true → ∀ j, j < i + 1 → okCh (s.data.toList.getD j 0) = true := fun hb j hj => by
      by_cases hji : j = i
      · rw [hji, ← hc]; exact hb
      · exact hall j (by omega)
    have hcg := okCh_get s i hlt
    rw [← hc] at hcg
    generalize hx : ((c.toNat : Nat) : Int) = x at hk
    by_cases k1 : x = 46 <;> by_cases k4 : x < 97 <;> by_cases k5 : x < 48 <;> by_cases k6 : 122 < x <;> by_cases k7 : 57 < x <;>
      (simp only [k1, k4, k5, k6, k7, decide_true, decide_false, Bool.not_true, Bool.not_false, Bool.and_true, Bool.true_and, Bool.false_and, Bool.and_false, Bool.or_true, Bool.true_or, Bool.or_false, Bool.false_or] at hk
       first
        | (have hq := hyes hk
           simp only [go_sem, ↓reduceIte, Nat.reduceEqDiff, Nat.reduceLeDiff, Nat.reduceAdd, Nat.reduceMul, Nat.reduceSub, Nat.reduceBEq, Nat.reduceGT, Nat.reduceLT, Int.reduceLE, Int.reduceLT, Int.reduceNeg, reduceCtorEq, c268_L0, e0, e14, e15, z0, z1, w1, Int.toNat_natCast, hcg, hx, k1, k4, k5, k6, k7]
           exact ⟨Hold.mk ⟨i + 1, by simp only [go_sem, ↓reduceIte, Nat.reduceEqDiff, Nat.reduceLeDiff, Nat.reduceAdd, Nat.reduceMul, Nat.reduceSub, Nat.reduceBEq, Nat.reduceGT, Nat.reduceLT, Int.reduceLE, Int.reduceLT, Int.reduceNeg, reduceCtorEq, e0], by simp only [go_sem, ↓reduceIte, Nat.reduceEqDiff, Nat.reduceLeDiff, Nat.reduceAdd, Nat.reduceMul, Nat.reduceSub, Nat.reduceBEq, Nat.reduceGT, Nat.reduceLT, Int.reduceLE, Int.reduceLT, Int.reduceNeg, reduceCtorEq, e14], by simp only [go_sem, ↓reduceIte, Nat.reduceEqDiff, Nat.reduceLeDiff, Nat.reduceAdd, Nat.reduceMul, Nat.reduceSub, Nat.reduceBEq, Nat.reduceGT, Nat.reduceLT, Int.reduceLE, Int.reduceLT, Int.reduceNeg, reduceCtorEq], by omega, hq, rfl⟩, by omega⟩)
        | (have e := hno hk
           simp only [go_sem, ↓reduceIte, Nat.reduceEqDiff, Nat.reduceLeDiff, Nat.reduceAdd, Nat.reduceMul, Nat.reduceSub, Nat.reduceBEq, Nat.reduceGT, Nat.reduceLT, Int.reduceLE, Int.reduceLT, Int.reduceNeg, reduceCtorEq, c268_L0, e0, e14, e15, z0, z1, w1, Int.toNat_natCast, hcg, hx, k1, k4, k5, k6, k7, e]))
  · have z1 : ¬ (i : Int) < s.size := by omega
    have e : isNm s = true := by
      unfold isNm
      rw [Bool.and_eq_true]
      refine ⟨hd, List.all_eq_true.2 fun c hc => ?_⟩
      obtain ⟨k, hk, rfl⟩ := List.getElem_of_mem hc
      have := hall k (by
        have hk2 : k < s.data.size := by simpa using hk
        have hk3 : s.data.size = s.size := rfl
        omega)
      rwa [List.getD_eq_getElem?_getD, List.getElem?_eq_getElem hk] at this
    simp only [go_sem, ↓reduceIte, Nat.reduceEqDiff, Nat.reduceLeDiff, Nat.reduceAdd, Nat.reduceMul, Nat.reduceSub, Nat.reduceBEq, Nat.reduceGT, Nat.reduceLT, Int.reduceLE, Int.reduceLT, Int.reduceNeg, reduceCtorEq, c268_L0, e0, e14, e15, z1, e]
abbrev Strs (H : Heap) (v : Value) (ns : List Nm) : Prop := Sl H 9 1 v (ns.map .string)
theorem strs_form {H : Heap} {v : Value} {ns : List Nm} (h : Strs H v ns) : ∃ a cap, v = .slice a ns.length cap := by
  obtain ⟨a, len, cap, rfl⟩ := Sl.form h
  have := Sl.length h
  simp at this
  exact ⟨a, cap, by rw [this]⟩
theorem strs_at {H : Heap} {a : Option Addr} {len cap : Nat} {ns : List Nm} (h : Strs H (.slice a len cap) ns) {i : Nat} (hi : i < ns.length) : ∃ b o, a = some ⟨b, o, none⟩ ∧ hget H b (o + i) = some (.string (ns.getD i emptyNm)) := by
  have hl := Sl.length h
  simp at hl
  obtain ⟨b, o, rfl⟩ := Sl.at h (by omega)
  refine ⟨b, o, rfl, ?_⟩
  rw [Sl.get h (by omega)]
  simp [List.getElem?_eq_getElem hi, List.getD_eq_getElem?_getD]
def beginI (off : Bool) (ns : List Nm) : Int := if ns.all isNm then if off then 81 else 0 else 84
theorem begin_eq (s : St) (ns : List Nm) : beginS s ns = beginI s.off ns := rfl
set_option maxHeartbeats 800000 in
theorem F206 {H : Heap} {b : Nat} {off : Bool} {v : Value} {ns : List Nm} (h5 : hget H b 5 = some (.bool off)) (hv : Strs H v ns) (hl : ns.length ≤ 64) :
    Fun Tryz.prog 206 #[ptrOf b, v] H (fun r H' => r = .int .i64 (beginI off ns) ∧ H = H') := by
  obtain ⟨a, cap, rfl⟩ := strs_form hv
  refine fun_of mixed (args := [_, _]) Tryz.func206 Tryz.ntmps206 b206 r206 rfl ?_
  simp only [go_sem, ↓reduceIte, Nat.reduceEqDiff, Nat.reduceLeDiff, Nat.reduceAdd, Nat.reduceMul, Nat.reduceSub, Nat.reduceBEq, Nat.reduceGT, Nat.reduceLT, Int.reduceLE, Int.reduceLT, Int.reduceNeg, reduceCtorEq, ptrOf]
  refine LoopI.by mixed (fun ρ H' => ∃ i : Nat, ρ 0 = ptrOf b ∧ ρ 7 = .slice a ns.length cap ∧ ρ 8 = .int .i64 ns.length ∧ ρ 9 = .int .i64 i ∧ i ≤ ns.length ∧ (∀ j, j < i → isNm (ns.getD j emptyNm) = true) ∧ H = H') (fun ρ _ => ns.length - (iof (ρ 9)).toNat) ?_ ?_
  · exact ⟨0, by simp only [go_sem, ↓reduceIte, Nat.reduceEqDiff, Nat.reduceLeDiff, Nat.reduceAdd, Nat.reduceMul, Nat.reduceSub, Nat.reduceBEq, Nat.reduceGT, Nat.reduceLT, Int.reduceLE, Int.reduceLT, Int.reduceNeg, reduceCtorEq, ptrOf], by simp only [go_sem, ↓reduceIte, Nat.reduceEqDiff, Nat.reduceLeDiff, Nat.reduceAdd, Nat.reduceMul, Nat.reduceSub, Nat.reduceBEq, Nat.reduceGT, Nat.reduceLT, Int.reduceLE, Int.reduceLT, Int.reduceNeg, reduceCtorEq], by simp only [go_sem, ↓reduceIte, Nat.reduceEqDiff, Nat.reduceLeDiff, Nat.reduceAdd, Nat.reduceMul, Nat.reduceSub, Nat.reduceBEq, Nat.reduceGT, Nat.reduceLT, Int.reduceLE, Int.reduceLT, Int.reduceNeg, reduceCtorEq], by simp only [go_sem, ↓reduceIte, Nat.reduceEqDiff, Nat.reduceLeDiff, Nat.reduceAdd, Nat.reduceMul, Nat.reduceSub, Nat.reduceBEq, Nat.reduceGT, Nat.reduceLT, Int.reduceLE, Int.reduceLT, Int.reduceNeg, reduceCtorEq]; rfl, by omega, by omega, rfl⟩
  rintro ρ H1 ⟨i, e0, e7, e8, e9, hi, hall, rfl⟩
  by_cases hlt : i < ns.length
  · have z0 : (0 : Int) ≤ i := by omega
    have z1 : (i : Int) < ns.length := by omega
    have w1 : IntKind.i64.wrap ((i : Int) + 1) = ((i + 1 : Nat) : Int) := by rw [w64_id (by omega) (by omega)]; omega
    obtain ⟨g, o, rfl, hg⟩ := strs_at hv hlt
    simp only [go_sem, ↓reduceIte, Nat.reduceEqDiff, Nat.reduceLeDiff, Nat.reduceAdd, Nat.reduceMul, Nat.reduceSub, Nat.reduceBEq, Nat.reduceGT, Nat.reduceLT, Int.reduceLE, Int.reduceLT, Int.reduceNeg, reduceCtorEq, c206_L0, e0, e7, e8, e9, z0, z1, Int.toNat_natCast, hg, Option.bind_some]
    refine FunI.by (F268 _ H) ?_
    rintro _ _ ⟨rfl, rfl⟩
    cases hb : isNm (ns.getD i emptyNm) with
    | false =>
      have e : ns.all isNm = false := by
        rw [List.all_eq_false]
        refine ⟨ns.getD i emptyNm, ?_, by rw [hb]; simp⟩
        rw [List.getD_eq_getElem?_getD, List.getElem?_eq_getElem hlt]
        exact List.getElem_mem _
      simp only [go_sem, ↓reduceIte, Nat.reduceEqDiff, Nat.reduceLeDiff, Nat.reduceAdd, Nat.reduceMul, Nat.reduceSub, Nat.reduceBEq, Nat.reduceGT, Nat.reduceLT, Int.reduceLE, Int.reduceLT, Int.reduceNeg, reduceCtorEq, beginI, e]
    | true =>
      simp only [go_sem, ↓reduceIte, Nat.reduceEqDiff, Nat.reduceLeDiff, Nat.reduceAdd, Nat.reduceMul, Nat.reduceSub, Nat.reduceBEq, Nat.reduceGT, Nat.reduceLT, Int.reduceLE, Int.reduceLT, Int.reduceNeg, reduceCtorEq, e9, w1]
      refine ⟨Hold.mk ⟨i + 1, by simp only [go_sem, ↓reduceIte, Nat.reduceEqDiff, Nat.reduceLeDiff, Nat.reduceAdd, Nat.reduceMul, Nat.reduceSub, Nat.reduceBEq, Nat.reduceGT, Nat.reduceLT, Int.reduceLE, Int.reduceLT, Int.reduceNeg, reduceCtorEq, e0], by simp only [go_sem, ↓reduceIte, Nat.reduceEqDiff, Nat.reduceLeDiff, Nat.reduceAdd, Nat.reduceMul, Nat.reduceSub, Nat.reduceBEq, Nat.reduceGT, Nat.reduceLT, Int.reduceLE, Int.reduceLT, Int.reduceNeg, reduceCtorEq, e7], by simp only [go_sem, ↓reduceIte, Nat.reduceEqDiff, Nat.reduceLeDiff, Nat.reduceAdd, Nat.reduceMul, Nat.reduceSub, Nat.reduceBEq, Nat.reduceGT, Nat.reduceLT, Int.reduceLE, Int.reduceLT, Int.reduceNeg, reduceCtorEq, e8], by simp only [go_sem, ↓reduceIte, Nat.reduceEqDiff, Nat.reduceLeDiff, Nat.reduceAdd, Nat.reduceMul, Nat.reduceSub, Nat.reduceBEq, Nat.reduceGT, Nat.reduceLT, Int.reduceLE, Int.reduceLT, Int.reduceNeg, reduceCtorEq], by omega, fun j hj => ?_, rfl⟩, by omega⟩
      by_cases hji : j = i
      · rw [hji]; exact hb
      · exact hall j (by omega)
  · have z1 : ¬ (i : Int) < ns.length := by omega
    have e : ns.all isNm = true := by
      refine List.all_eq_true.2 fun c hc => ?_
      obtain ⟨k, hk, rfl⟩ := List.getElem_of_mem hc
      have := hall k (by omega)
      rwa [List.getD_eq_getElem?_getD, List.getElem?_eq_getElem hk] at this
    cases off with
    | true =>
      simp only [go_sem, ↓reduceIte, Nat.reduceEqDiff, Nat.reduceLeDiff, Nat.reduceAdd, Nat.reduceMul, Nat.reduceSub, Nat.reduceBEq, Nat.reduceGT, Nat.reduceLT, Int.reduceLE, Int.reduceLT, Int.reduceNeg, reduceCtorEq, c206_L0, e0, e7, e8, e9, z1, ptrOf, h5, beginI, e]
    | false =>
      simp only [go_sem, ↓reduceIte, Nat.reduceEqDiff, Nat.reduceLeDiff, Nat.reduceAdd, Nat.reduceMul, Nat.reduceSub, Nat.reduceBEq, Nat.reduceGT, Nat.reduceLT, Int.reduceLE, Int.reduceLT, Int.reduceNeg, reduceCtorEq, c206_L0, e0, e7, e8, e9, z1, ptrOf, h5, beginI, e]
section
variable {H : Heap} {F : Nat → Prop} {b mb lb hb : Nat} {pv : Value} {dv : Nat → Value} {s : St}
theorem F41 (h : FsH H F b s) : Fun Tryz.prog 41 #[ptrOf b] H (fun r H' => r = .bool (!s.off) ∧ H = H') := by
  obtain ⟨mb, lb, hb, pv, dv, h⟩ := h
  refine fun_of mixed (args := [_]) Tryz.func41 Tryz.ntmps41 b41 r41 rfl ?_
  obtain ⟨g0, g1, g2, g3, g4, g5, g6, g7⟩ := h.get
  simp only [go_sem, ↓reduceIte, Nat.reduceEqDiff, Nat.reduceLeDiff, Nat.reduceAdd, Nat.reduceMul, Nat.reduceSub, Nat.reduceBEq, Nat.reduceGT, Nat.reduceLT, Int.reduceLE, Int.reduceLT, Int.reduceNeg, reduceCtorEq, ptrOf, g5]
theorem FsP.pend_form (h : FsP H F b mb lb hb pv dv s) : ∃ a cap, pv = .slice a s.pend.length cap := by
  obtain ⟨vs, o, p⟩ := h.hp
  obtain ⟨a, len, cap, rfl⟩ := Sl.form o.sl
  have := Sl.length o.sl
  rw [p.length, Nat.mul_one] at this
  exact ⟨a, cap, by rw [this]⟩
/-- A field of the block, written. -/
theorem FsP.put (h : FsP H F b mb lb hb pv dv s) (i : Nat) (v : Value) (hi : i < 8) : hcan H b i 1 ∧ (hput H b i [v])[b]? = some (.cells ((stC s mb lb hb pv).setIfInBounds i v) 89) := by
  refine ⟨hcan_of h.hM (by show i + 1 ≤ 8; omega), ?_⟩
  rw [hput_same h.hM]
  congr 2
  apply Array.ext_getElem?
  intro j
  rw [Array.getElem?_setIfInBounds]
  have h8 : (stC s mb lb hb pv).size = 8 := rfl
  by_cases hij : i = j
  · subst hij
    have := cput_get_in (c := stC s mb lb hb pv) (o := i) (vs := [v]) (j := 0) (by simp; omega) (by simp)
    rw [Nat.add_zero] at this
    rw [this]; simp [h8, hi]
  · rw [cput_get_out (by simp; omega) (by simp; omega), if_neg hij]
set_option maxHeartbeats 800000 in
theorem F179 (h : FsP H F b mb lb hb pv dv s) (ok : 0 ≤ s.fuse ∧ s.fuse < 9223372036854775808) (hops : 0 ≤ s.ops ∧ s.ops < 4611686018427387904) :
    Fun Tryz.prog 179 #[ptrOf b] H (fun r H' => r = .int .i64 (countS s).2 ∧ FsP H' F b mb lb hb pv dv (countS s).1 ∧ Ch F F H H') := by
  refine fun_of mixed (args := [_]) Tryz.func179 Tryz.ntmps179 b179 r179 rfl ?_
  obtain ⟨g0, g1, g2, g3, g4, g5, g6, g7⟩ := h.get
  have w1 : IntKind.i64.wrap (s.ops + 1) = s.ops + 1 := w64_id (by omega) (by omega)
  obtain ⟨p1, p2⟩ := h.put 7 (.int .i64 (s.ops + 1)) (by omega)
  obtain ⟨k1, k2⟩ := h.setB (s' := { s with ops := s.ops + 1 }) rfl rfl rfl rfl rfl rfl rfl (hput_size _ _ _ _) (fun g hg => hput_other _ _ _ _ hg) (by rw [p2]; rfl)
  obtain ⟨_, _, _, _, _, _, q6, _⟩ := k1.get
  simp only at q6
  simp only [go_sem, ↓reduceIte, Nat.reduceEqDiff, Nat.reduceLeDiff, Nat.reduceAdd, Nat.reduceMul, Nat.reduceSub, Nat.reduceBEq, Nat.reduceGT, Nat.reduceLT, Int.reduceLE, Int.reduceLT, Int.reduceNeg, reduceCtorEq, ptrOf, g7, w1, p1]
  generalize hput H b 7 [Value.int .i64 (s.ops + 1)] = H1 at *
  by_cases c0 : 0 < s.fuse
  · have w2 : IntKind.i64.wrap (s.fuse - 1) = s.fuse - 1 := w64_id (by omega) (by omega)
    obtain ⟨r1, r2⟩ := k1.put 6 (.int .i64 (s.fuse - 1)) (by omega)
    obtain ⟨l1, l2⟩ := k1.setB (s' := { s with ops := s.ops + 1, fuse := s.fuse - 1 }) rfl rfl rfl rfl rfl rfl rfl (hput_size _ _ _ _) (fun g hg => hput_other _ _ _ _ hg) (by rw [r2]; rfl)
    obtain ⟨_, _, _, _, _, _, t6, _⟩ := l1.get
    simp only at t6
    simp only [go_sem, ↓reduceIte, Nat.reduceEqDiff, Nat.reduceLeDiff, Nat.reduceAdd, Nat.reduceMul, Nat.reduceSub, Nat.reduceBEq, Nat.reduceGT, Nat.reduceLT, Int.reduceLE, Int.reduceLT, Int.reduceNeg, reduceCtorEq, q6, c0, w2, r1]
    generalize hput H1 b 6 [Value.int .i64 (s.fuse - 1)] = H2 at *
    by_cases c1 : s.fuse = 1
    · have w3 : s.fuse - 1 = 0 := by omega
      obtain ⟨u1, u2⟩ := l1.put 5 (.bool true) (by omega)
      obtain ⟨v1, v2⟩ := l1.setB (s' := { s with ops := s.ops + 1, fuse := 0, off := true }) rfl rfl rfl rfl rfl rfl rfl (hput_size _ _ _ _) (fun g hg => hput_other _ _ _ _ hg) (by rw [u2]; simp only [w3]; rfl)
      have e : countS s = ({ s with ops := s.ops + 1, fuse := 0, off := true }, 81) := by unfold countS; rw [if_pos c0, if_pos c1]
      rw [e]
      simp only [go_sem, ↓reduceIte, Nat.reduceEqDiff, Nat.reduceLeDiff, Nat.reduceAdd, Nat.reduceMul, Nat.reduceSub, Nat.reduceBEq, Nat.reduceGT, Nat.reduceLT, Int.reduceLE, Int.reduceLT, Int.reduceNeg, reduceCtorEq, t6, w3, u1]
      exact ⟨rfl, rfl, rfl, v1, (k2.trans l2).trans v2⟩
    · have w3 : ¬ s.fuse - 1 = 0 := by omega
      have e : countS s = ({ s with ops := s.ops + 1, fuse := s.fuse - 1 }, 0) := by unfold countS; rw [if_pos c0, if_neg c1]
      rw [e]
      simp only [go_sem, ↓reduceIte, Nat.reduceEqDiff, Nat.reduceLeDiff, Nat.reduceAdd, Nat.reduceMul, Nat.reduceSub, Nat.reduceBEq, Nat.reduceGT, Nat.reduceLT, Int.reduceLE, Int.reduceLT, Int.reduceNeg, reduceCtorEq, t6, w3]
      exact ⟨rfl, rfl, l1, k2.trans l2⟩
  · have e : countS s = ({ s with ops := s.ops + 1 }, 0) := by unfold countS; rw [if_neg c0]
    rw [e]
    simp only [go_sem, ↓reduceIte, Nat.reduceEqDiff, Nat.reduceLeDiff, Nat.reduceAdd, Nat.reduceMul, Nat.reduceSub, Nat.reduceBEq, Nat.reduceGT, Nat.reduceLT, Int.reduceLE, Int.reduceLT, Int.reduceNeg, reduceCtorEq, q6, c0]
    exact ⟨rfl, k1, k2⟩
set_option maxHeartbeats 800000 in
theorem F23 (h : FsH H F b s) (k : Int) :
    Fun Tryz.prog 23 #[ptrOf b, .int .i64 k] H (fun r H' => r = .int .i64 (armS s k).2 ∧ FsH H' F b (armS s k).1 ∧ Ch F F H H') := by
  obtain ⟨mb, lb, hb, pv, dv, h⟩ := h
  refine fun_of mixed (args := [_, _]) Tryz.func23 Tryz.ntmps23 b23 r23 rfl ?_
  obtain ⟨g0, g1, g2, g3, g4, g5, g6, g7⟩ := h.get
  by_cases c0 : k < 0
  · have e : armS s k = (s, 85) := by unfold armS; rw [if_pos c0]
    rw [e]
    simp only [go_sem, ↓reduceIte, Nat.reduceEqDiff, Nat.reduceLeDiff, Nat.reduceAdd, Nat.reduceMul, Nat.reduceSub, Nat.reduceBEq, Nat.reduceGT, Nat.reduceLT, Int.reduceLE, Int.reduceLT, Int.reduceNeg, reduceCtorEq, c0]
    exact ⟨⟨_, _, _, _, _, h⟩, Ch.refl _ _⟩
  cases c1 : s.off with
  | true =>
    have e : armS s k = (s, 81) := by unfold armS; rw [if_neg c0, c1, if_pos rfl]
    rw [e]
    rw [c1] at g5
    simp only [go_sem, ↓reduceIte, Nat.reduceEqDiff, Nat.reduceLeDiff, Nat.reduceAdd, Nat.reduceMul, Nat.reduceSub, Nat.reduceBEq, Nat.reduceGT, Nat.reduceLT, Int.reduceLE, Int.reduceLT, Int.reduceNeg, reduceCtorEq, ptrOf, c0, g5]
    exact ⟨⟨_, _, _, _, _, h⟩, Ch.refl _ _⟩
  | false =>
    have e : armS s k = ({ s with fuse := k }, 0) := by unfold armS; rw [if_neg c0, c1, if_neg (by simp)]
    obtain ⟨p1, p2⟩ := h.put 6 (.int .i64 k) (by omega)
    obtain ⟨k1, k2⟩ := h.setB (s' := { s with fuse := k }) rfl rfl rfl rfl rfl rfl rfl (hput_size _ _ _ _) (fun g hg => hput_other _ _ _ _ hg) (by rw [p2]; rfl)
    rw [e]
    rw [c1] at g5
    simp only [go_sem, ↓reduceIte, Nat.reduceEqDiff, Nat.reduceLeDiff, Nat.reduceAdd, Nat.reduceMul, Nat.reduceSub, Nat.reduceBEq, Nat.reduceGT, Nat.reduceLT, Int.reduceLE, Int.reduceLT, Int.reduceNeg, reduceCtorEq, ptrOf, c0, g5, p1]
    exact ⟨rfl, ⟨_, _, _, _, _, k1⟩, k2⟩
theorem FileH.at {dv : Value} {f sy : Nat} {d : List Int} (h : FileH H F f dv d sy) : hget H f 0 = some dv ∧ hget H f 1 = some (.int .i64 sy) ∧ (∃ a cap, dv = .slice a d.length cap) ∧ Ints H 5 .u8 dv d := by
  refine ⟨by rw [hget_cells h.2.1]; rfl, by rw [hget_cells h.2.1]; rfl, ?_, h.2.2.1.sl⟩
  exact Ints.form (show Ints H 5 .u8 dv d from h.2.2.1.sl)
set_option maxHeartbeats 800000 in
theorem F178 (h : FsP H F b mb lb hb pv dv s) (n : Nm) :
    Fun Tryz.prog 178 #[ptrOf b, .string n] H (fun r H' => r = .tuple #[(match (findS s n).1 with | some x => ptrOf x | none => .pointer none), .int .i64 (findS s n).2] ∧ Ext H H') := by
  refine fun_of mixed (args := [_, _]) Tryz.func178 Tryz.ntmps178 b178 r178 rfl ?_
  obtain ⟨g0, g1, g2, g3, g4, g5, g6, g7⟩ := h.get
  simp only [go_sem, ↓reduceIte, Nat.reduceEqDiff, Nat.reduceLeDiff, Nat.reduceAdd, Nat.reduceMul, Nat.reduceSub, Nat.reduceBEq, Nat.reduceGT, Nat.reduceLT, Int.reduceLE, Int.reduceLT, Int.reduceNeg, reduceCtorEq, ptrOf]
  have x0 : Ext H (H.push (.cells #[.string n] 9)) := Ext.push _
  have hs : Strs (H.push (.cells #[.string n] 9)) (.slice (some ⟨H.size, 0, none⟩) 1 1) [n] := Sl.new (n := 1) (sz := 1) (c := #[.string n]) rfl
  have h1 := h.ext x0
  obtain ⟨q0, q1, q2, q3, q4, q5, q6, q7⟩ := h1.get
  generalize H.push (.cells #[.string n] 9) = H1 at *
  refine FunI.by (F206 (b := b) q5 hs (by simp)) ?_
  rintro _ _ ⟨rfl, rfl⟩
  rw [← begin_eq]
  by_cases c0 : beginS s [n] = 0
  · obtain ⟨l, c, m1, m2⟩ := h1.hN
    simp only [go_sem, ↓reduceIte, Nat.reduceEqDiff, Nat.reduceLeDiff, Nat.reduceAdd, Nat.reduceMul, Nat.reduceSub, Nat.reduceBEq, Nat.reduceGT, Nat.reduceLT, Int.reduceLE, Int.reduceLT, Int.reduceNeg, reduceCtorEq, c0, q1]
    refine RunI.by (lookup_run (keyed_str (und_str ty9)) (und_map ty85) (zero_ty ty115) m1 n trivial fun _ _ => trivial) ?_
    rintro _ _ ⟨rfl, rfl⟩
    rw [m2]
    cases hx : s.now n with
    | none =>
      have e : findS s n = (none, 82) := by unfold findS; rw [if_neg (by simp [c0])]; simp only [hx]
      rw [e]
      simp only [go_sem, ↓reduceIte, Nat.reduceEqDiff, Nat.reduceLeDiff, Nat.reduceAdd, Nat.reduceMul, Nat.reduceSub, Nat.reduceBEq, Nat.reduceGT, Nat.reduceLT, Int.reduceLE, Int.reduceLT, Int.reduceNeg, reduceCtorEq, Option.getD_none]
      exact x0
    | some x =>
      have e : findS s n = (some x, 0) := by unfold findS; rw [if_neg (by simp [c0])]; simp only [hx]
      rw [e]
      simp only [go_sem, ↓reduceIte, Nat.reduceEqDiff, Nat.reduceLeDiff, Nat.reduceAdd, Nat.reduceMul, Nat.reduceSub, Nat.reduceBEq, Nat.reduceGT, Nat.reduceLT, Int.reduceLE, Int.reduceLT, Int.reduceNeg, reduceCtorEq, Option.getD_some, ptrOf]
      exact x0
  · have e : findS s n = (none, beginS s [n]) := by unfold findS; rw [if_pos c0]
    rw [e]
    simp only [go_sem, ↓reduceIte, Nat.reduceEqDiff, Nat.reduceLeDiff, Nat.reduceAdd, Nat.reduceMul, Nat.reduceSub, Nat.reduceBEq, Nat.reduceGT, Nat.reduceLT, Int.reduceLE, Int.reduceLT, Int.reduceNeg, reduceCtorEq, c0]
    exact x0
end
end Go.Proofs.YtgigigchjnnonaaGreatDoor
