/- The laws' small helpers: num, name, bytes, has, drop. -/
import Derived.Test.YtmkheogjnlmkdaaVFlP
import Derived.Test.YtmkheogjnlmkdaaVByt
import Derived.Test.YtmkheogjnlmkdaaVFsI
set_option linter.unusedSimpArgs false
set_option linter.unusedVariables false
set_option maxRecDepth 20000
namespace Go.V
open Go
theorem rem_pos (x m : Int) (hm : 0 < m) (hm2 : m < 1000000) : IntKind.i64.wrap (x.tmod m + m) = x.tmod m + m ∧ (x.tmod m + m).tmod m = x % m := by
  have h1 : x.tmod m = if 0 ≤ x ∨ m ∣ x then x % m else x % m - m := by
    rw [Int.tmod_eq_emod]
    split
    · simp
    · rw [Int.natAbs_of_nonneg (by omega)]
  have h2 := Int.emod_nonneg x (by omega : m ≠ 0)
  have h3 := Int.emod_lt_of_pos x hm
  refine ⟨w64_id ?_ ?_, ?_⟩
  · rw [h1]; split <;> omega
  · rw [h1]; split <;> omega
  · rw [h1]
    split
    · rw [Int.tmod_eq_emod_of_nonneg (by omega), Int.add_emod_right, Int.emod_emod]
    · rename_i hx
      rw [Int.tmod_eq_emod_of_nonneg (by omega), show x % m - m + m = x % m by omega, Int.emod_emod]
/-- New blocks since H0, or in N. -/
theorem Gr.ext {N : Nat → Prop} {H0 H H' : Heap} (hs : H.size ≤ H'.size) : ∀ g, Gr N H0 H g → Gr N H0 H' g := fun g hg => hg.imp_right fun h => ⟨h.1, Nat.lt_of_lt_of_le h.2 hs⟩
theorem dropL_step {α : Type} {P : List α} {i : Int} {j : Nat} {p : α} (hp : P[j]? = some p) : dropL (P.take (j + 1)) i = if (j : Int) = i then dropL (P.take j) i else dropL (P.take j) i ++ [p] := by
  have hj := (List.getElem?_eq_some_iff.1 hp).1
  rw [List.take_add_one, hp]
  unfold dropL
  by_cases h0 : 0 ≤ i
  · rw [if_pos h0, if_pos h0]
    have hl : (P.take j).length = j := by simp; omega
    by_cases hi : (j : Int) = i
    · rw [if_pos hi]
      have : i.toNat = j := by omega
      rw [this, List.eraseIdx_append_of_length_le (by omega), hl, Nat.sub_self, List.eraseIdx_of_length_le (l := P.take j) (by omega)]
      simp
    · rw [if_neg hi]
      by_cases hlt : i.toNat < j
      · rw [List.eraseIdx_append_of_lt_length (by omega)]; rfl
      · rw [List.eraseIdx_append_of_length_le (by omega), hl, List.eraseIdx_of_length_le (k := i.toNat) (l := P.take j) (by omega)]
        rw [List.eraseIdx_of_length_le (by simp; omega)]; rfl
  · rw [if_neg h0, if_neg h0, if_neg (by omega)]; rfl
theorem erase_map {α β : Type} (f : α → β) : ∀ (P : List α) (i : Nat), (P.eraseIdx i).map f = (P.map f).eraseIdx i
  | [], i => by simp
  | p :: P, 0 => rfl
  | p :: P, i + 1 => by simp only [List.eraseIdx_cons_succ, List.map_cons, erase_map f P i]
theorem dropL_map {α β : Type} (f : α → β) (P : List α) (i : Int) : (dropL P i).map f = dropL (P.map f) i := by
  unfold dropL
  split
  · exact erase_map f P _
  · rfl
theorem dropL_len {α : Type} (P : List α) (i : Int) : (dropL P i).length ≤ P.length := by
  unfold dropL
  split
  · rw [List.length_eraseIdx]; split <;> omega
  · exact Nat.le_refl _
theorem dropL_mem {α : Type} {P : List α} {i : Int} {p : α} (h : p ∈ dropL P i) : p ∈ P := by
  unfold dropL at h
  split at h
  · exact List.mem_of_mem_eraseIdx h
  · exact h
end Go.V
namespace Go.Proofs.Ytmkheogjnlmkdaa
open Go Go.V
-- 22: pith/pithlaw8.num
-- 16: pith/pithlaw8.name
-- 18: pith/pithlaw8.bytes
-- 15: pith/pithlaw8.has
-- 47: pith/pithlaw8.drop
-- 3: int
-- 5: uint8
-- 34: []uint8
-- 9: string
-- 58: []string
-- 30: pithlaw8.Step
-- 44: pith/api.File
-- 26: []api.File
theorem F22 (x : Int) (H : Heap) : Fun Try.prog 22 #[.int .i64 x] H (fun r H' => r = .int .i64 x ∧ H = H') := by
  refine fun_of mixed (args := [_]) Try.func22 Try.ntmps22 b22 r22 rfl ?_
  simp only [go_sem, ↓reduceIte, Nat.reduceEqDiff, Nat.reduceLeDiff, Nat.reduceAdd, Nat.reduceMul, Nat.reduceSub, Nat.reduceBEq, Nat.reduceGT, Nat.reduceLT, Int.reduceLE, Int.reduceLT, Int.reduceNeg, reduceCtorEq]
theorem F16 (i : Int) (H : Heap) : Fun Try.prog 16 #[.int .i64 i] H (fun r H' => r = .string (nameS i) ∧ Ext H H') := by
  refine fun_of mixed (args := [_]) Try.func16 Try.ntmps16 b16 r16 rfl ?_
  obtain ⟨h1, h2⟩ := rem_pos i 8 (by omega) (by omega)
  obtain ⟨j, hj⟩ : ∃ j : Nat, i % 8 = j := ⟨(i % 8).toNat, by omega⟩
  have hj8 : j < 8 := by omega
  have h0 : (0 : Int) ≤ (j : Int) := by omega
  have h8 : (j : Int) < ((8 : Nat) : Int) := by omega
  have hs : Sl (H.push (.cells (names8.map Value.string).toArray 9)) 9 1 (.slice (some ⟨H.size, 0, none⟩) 8 8) (names8.map Value.string) := Sl.new (n := 8) (sz := 1) (c := (names8.map Value.string).toArray) rfl
  have hg : hget (H.push (.cells (names8.map Value.string).toArray 9)) H.size j = some (.string (nameS i)) := by
    have := Sl.get hs (i := j) (by omega)
    rw [Nat.zero_add] at this
    rw [this, List.getElem?_map]
    unfold nameS
    rw [hj, Int.toNat_natCast, List.getD_eq_getElem?_getD, List.getElem?_eq_getElem (by simpa [names8] using hj8)]
    rfl
  have x0 : Ext H (H.push (.cells (names8.map Value.string).toArray 9)) := Ext.push _
  simp only [names8, List.map_cons, List.map_nil] at hg x0
  simp only [go_sem, ↓reduceIte, Nat.reduceEqDiff, Nat.reduceLeDiff, Nat.reduceAdd, Nat.reduceMul, Nat.reduceSub, Nat.reduceBEq, Nat.reduceGT, Nat.reduceLT, Int.reduceLE, Int.reduceLT, Int.reduceNeg, reduceCtorEq, h1, h2, hj, h0, h8, Int.toNat_natCast, Nat.mul_one, hg]
  refine ⟨by omega, by omega, ?_⟩
  exact x0
theorem F18 (s : Stp) (H : Heap) (hf : 0 ≤ s.fill ∧ s.fill < 256) : Fun Try.prog 18 #[.agg #[.int .i64 s.kind, .int .i64 s.i, .int .i64 s.k, .int .i64 s.many, .int .u8 s.fill]] H (fun r H' => Own H' H.size 5 1 r ((bytS s).map (.int .u8)) ∧ Ext H H') := by
  refine fun_of mixed (args := [_]) Try.func18 Try.ntmps18 b18 r18 rfl ?_
  obtain ⟨h1, h2⟩ := rem_pos s.many 51 (by omega) (by omega)
  obtain ⟨n, hn⟩ : ∃ j : Nat, s.many % 51 = j := ⟨(s.many % 51).toNat, by omega⟩
  have hn51 : n < 51 := by omega
  have x0 : Ext H (H.push (.cells #[.int .i64 s.kind, .int .i64 s.i, .int .i64 s.k, .int .i64 s.many, .int .u8 s.fill] 30)) := Ext.push _
  have g3 : hget (H.push (.cells #[.int .i64 s.kind, .int .i64 s.i, .int .i64 s.k, .int .i64 s.many, .int .u8 s.fill] 30)) H.size 3 = some (.int .i64 s.many) := by unfold hget; rw [push_new]; rfl
  have g4 : hget (H.push (.cells #[.int .i64 s.kind, .int .i64 s.i, .int .i64 s.k, .int .i64 s.many, .int .u8 s.fill] 30)) H.size 4 = some (.int .u8 s.fill) := by unfold hget; rw [push_new]; rfl
  have hl : (bytS s).length = n := by rw [bytS_len, hn]; omega
  have sz1 : (H.push (.cells #[.int .i64 s.kind, .int .i64 s.i, .int .i64 s.k, .int .i64 s.many, .int .u8 s.fill] 30)).size = H.size + 1 := by simp
  simp only [go_sem, ↓reduceIte, Nat.reduceEqDiff, Nat.reduceLeDiff, Nat.reduceAdd, Nat.reduceMul, Nat.reduceSub, Nat.reduceBEq, Nat.reduceGT, Nat.reduceLT, Int.reduceLE, Int.reduceLT, Int.reduceNeg, reduceCtorEq, g3, h1, h2, hn, sz1, Int.toNat_natCast]
  refine ⟨by omega, by omega, by omega, by omega, by omega, by omega, ?_⟩
  have x1 : Ext H ((H.push (.cells #[.int .i64 s.kind, .int .i64 s.i, .int .i64 s.k, .int .i64 s.many, .int .u8 s.fill] 30)).push (.cells (zrow (.int .u8 0) n) 5)) := Upto.push x0 (by simp) _
  have g4' : hget ((H.push (.cells #[.int .i64 s.kind, .int .i64 s.i, .int .i64 s.k, .int .i64 s.many, .int .u8 s.fill] 30)).push (.cells (zrow (.int .u8 0) n) 5)) H.size 4 = some (.int .u8 s.fill) := hget_ext (Ext.push _) g4
  have o0 : Own ((H.push (.cells #[.int .i64 s.kind, .int .i64 s.i, .int .i64 s.k, .int .i64 s.many, .int .u8 s.fill] 30)).push (.cells (zrow (.int .u8 0) n) 5)) (H.size + 1) 5 1 (.slice (some ⟨H.size + 1, 0, none⟩) n n) ((zrow (.int .u8 0) n).toList) := by
    have := Own.made (H := H.push (.cells #[.int .i64 s.kind, .int .i64 s.i, .int .i64 s.k, .int .i64 s.many, .int .u8 s.fill] 30)) (B := H.size + 1) (e := 5) (sz := 1) (l := n) (c := n) (z := .int .u8 0) (by simp) (Nat.le_refl _) (by omega)
    rw [List.take_of_length_le (by simp [zrow_size])] at this
    simpa using this
  refine LoopI.by mixed (fun ρ H' => ∃ (i : Nat) (zs : List Value), ρ 1 = .pointer (some ⟨H.size, 0, none⟩) ∧ ρ 3 = .slice (some ⟨H.size + 1, 0, none⟩) n n ∧ ρ 4 = .int .i64 i ∧ i ≤ n ∧ zs.length = n - i ∧ Own H' (H.size + 1) 5 1 (.slice (some ⟨H.size + 1, 0, none⟩) n n) (((bytS s).take i).map (Value.int .u8) ++ zs) ∧ Ext H H' ∧ hget H' H.size 4 = some (.int .u8 s.fill)) (fun ρ _ => n - (iof (ρ 4)).toNat) ?_ ?_
  · exact ⟨0, (zrow (.int .u8 0) n).toList, by simp only [go_sem, ↓reduceIte, Nat.reduceEqDiff, Nat.reduceLeDiff, Nat.reduceAdd, Nat.reduceMul, Nat.reduceSub, Nat.reduceBEq, Nat.reduceGT, Nat.reduceLT, Int.reduceLE, Int.reduceLT, Int.reduceNeg, reduceCtorEq], by simp only [go_sem, ↓reduceIte, Nat.reduceEqDiff, Nat.reduceLeDiff, Nat.reduceAdd, Nat.reduceMul, Nat.reduceSub, Nat.reduceBEq, Nat.reduceGT, Nat.reduceLT, Int.reduceLE, Int.reduceLT, Int.reduceNeg, reduceCtorEq], by simp only [go_sem, ↓reduceIte, Nat.reduceEqDiff, Nat.reduceLeDiff, Nat.reduceAdd, Nat.reduceMul, Nat.reduceSub, Nat.reduceBEq, Nat.reduceGT, Nat.reduceLT, Int.reduceLE, Int.reduceLT, Int.reduceNeg, reduceCtorEq]; rfl, by omega, by simp [zrow_size], by simpa using o0, x1, g4'⟩
  rintro ρ H' ⟨i, zs, e1, e3, e4, hi, hz, ho, hx, hg⟩
  by_cases hlt : i < n
  · have c1 : (i : Int) < n := by omega
    have c0 : (0 : Int) ≤ i := by omega
    obtain ⟨_, p1, p2, p3, _⟩ := ho.store (i := i) hlt (.int .u8 ((s.fill + i) % 256))
    rw [Nat.zero_add] at p1 p2 p3
    have w1 : IntKind.u8.wrap (s.fill + IntKind.u8.wrap (i : Int)) = (s.fill + i) % 256 := by rw [wu8, wu8]; omega
    have w2 : IntKind.i64.wrap ((i : Int) + 1) = ((i + 1 : Nat) : Int) := by rw [w64_id (by omega) (by omega)]; omega
    have hs := hx.size
    simp only [go_sem, ↓reduceIte, Nat.reduceEqDiff, Nat.reduceLeDiff, Nat.reduceAdd, Nat.reduceMul, Nat.reduceSub, Nat.reduceBEq, Nat.reduceGT, Nat.reduceLT, Int.reduceLE, Int.reduceLT, Int.reduceNeg, reduceCtorEq, c18_L0, e1, e3, e4, c0, c1, hg, w1, w2, Int.toNat_natCast, Nat.mul_one, p1]
    refine ⟨rfl, Hold.mk ⟨i + 1, zs.tail, by simp only [go_sem, ↓reduceIte, Nat.reduceEqDiff, Nat.reduceLeDiff, Nat.reduceAdd, Nat.reduceMul, Nat.reduceSub, Nat.reduceBEq, Nat.reduceGT, Nat.reduceLT, Int.reduceLE, Int.reduceLT, Int.reduceNeg, reduceCtorEq, e1], by simp only [go_sem, ↓reduceIte, Nat.reduceEqDiff, Nat.reduceLeDiff, Nat.reduceAdd, Nat.reduceMul, Nat.reduceSub, Nat.reduceBEq, Nat.reduceGT, Nat.reduceLT, Int.reduceLE, Int.reduceLT, Int.reduceNeg, reduceCtorEq, e3], by simp only [go_sem, ↓reduceIte, Nat.reduceEqDiff, Nat.reduceLeDiff, Nat.reduceAdd, Nat.reduceMul, Nat.reduceSub, Nat.reduceBEq, Nat.reduceGT, Nat.reduceLT, Int.reduceLE, Int.reduceLT, Int.reduceNeg, reduceCtorEq], by omega, by simp; omega, ?_, hx.hput (by omega), ?_⟩, by omega⟩
    · have e5 : (((bytS s).take i).map (Value.int .u8) ++ zs).set i (.int .u8 ((s.fill + i) % 256)) = ((bytS s).take (i + 1)).map (Value.int .u8) ++ zs.tail := by
        cases zs with
        | nil => simp at hz; omega
        | cons z zs =>
          have h5 : (bytS s)[i]? = some ((s.fill + i) % 256) := by
            unfold bytS
            rw [List.getElem?_map, List.getElem?_range (by omega)]
            rfl
          rw [List.take_add_one, h5, List.set_append_right _ _ (by simp; omega)]
          have : i - (((bytS s).take i).map (Value.int .u8)).length = 0 := by simp; omega
          rw [this]
          simp
      rw [← e5]
      exact p2
    · rw [← hg]
      unfold hget
      rw [hput_other _ _ _ _ (by omega)]
  · have c1 : ¬ (i : Int) < n := by omega
    simp only [go_sem, ↓reduceIte, Nat.reduceEqDiff, Nat.reduceLeDiff, Nat.reduceAdd, Nat.reduceMul, Nat.reduceSub, Nat.reduceBEq, Nat.reduceGT, Nat.reduceLT, Int.reduceLE, Int.reduceLT, Int.reduceNeg, reduceCtorEq, c18_L0, e1, e3, e4, c1]
    have : i = n := by omega
    subst this
    rw [List.take_of_length_le (by omega)] at ho
    have : zs = [] := List.eq_nil_of_length_eq_zero (by omega)
    subst this
    rw [List.append_nil] at ho
    exact ⟨ho.mono (by omega), hx⟩
theorem F15 {H : Heap} {N : Nat → Prop} {v : Value} {L : List Fl} (hv : FilesN H N v L) (hl : L.length ≤ 2932031000000) (n : Nm) :
    Fun Try.prog 15 #[v, .string n] H (fun r H' => r = .int .i64 (hasS L n) ∧ H = H') := by
  obtain ⟨a, c, rfl⟩ := hv.form
  refine fun_of mixed (args := [_, _]) Try.func15 Try.ntmps15 b15 r15 rfl ?_
  simp only [go_sem, ↓reduceIte, Nat.reduceEqDiff, Nat.reduceLeDiff, Nat.reduceAdd, Nat.reduceMul, Nat.reduceSub, Nat.reduceBEq, Nat.reduceGT, Nat.reduceLT, Int.reduceLE, Int.reduceLT, Int.reduceNeg, reduceCtorEq]
  obtain ⟨P0, h0, hp0⟩ := hv
  have hP0 : P0.length = L.length := by rw [← h0, List.length_map]
  refine LoopI.by mixed (fun ρ H' => H = H' ∧ ∃ i : Nat, ρ 0 = .slice a L.length c ∧ ρ 1 = .string n ∧ ρ 5 = .int .i64 i ∧ i ≤ L.length ∧ ∀ j x, j < i → L[j]? = some x → x.1 ≠ n) (fun ρ _ => L.length - (iof (ρ 5)).toNat) ?_ ?_
  · exact ⟨rfl, 0, by simp only [go_sem, ↓reduceIte, Nat.reduceEqDiff, Nat.reduceLeDiff, Nat.reduceAdd, Nat.reduceMul, Nat.reduceSub, Nat.reduceBEq, Nat.reduceGT, Nat.reduceLT, Int.reduceLE, Int.reduceLT, Int.reduceNeg, reduceCtorEq], by simp only [go_sem, ↓reduceIte, Nat.reduceEqDiff, Nat.reduceLeDiff, Nat.reduceAdd, Nat.reduceMul, Nat.reduceSub, Nat.reduceBEq, Nat.reduceGT, Nat.reduceLT, Int.reduceLE, Int.reduceLT, Int.reduceNeg, reduceCtorEq], by simp only [go_sem, ↓reduceIte, Nat.reduceEqDiff, Nat.reduceLeDiff, Nat.reduceAdd, Nat.reduceMul, Nat.reduceSub, Nat.reduceBEq, Nat.reduceGT, Nat.reduceLT, Int.reduceLE, Int.reduceLT, Int.reduceNeg, reduceCtorEq]; rfl, by omega, fun j x h => by omega⟩
  rintro ρ _ ⟨rfl, i, e0, e1, e5, hi, hno⟩
  by_cases hlt : i < L.length
  · obtain ⟨b, o, rfl⟩ := hp0.at (by omega : i < P0.length)
    obtain ⟨⟨w1, x⟩, hxi⟩ : ∃ p, P0[i]? = some p := ⟨_, List.getElem?_eq_getElem (by omega)⟩
    have hLi : L[i]? = some x := by rw [← h0, List.getElem?_map, hxi]; rfl
    obtain ⟨_, g0, _, _⟩ := hp0.get hxi
    have gs := g0 0 (by decide)
    simp only [Nat.add_zero, List.getElem?_cons_zero] at gs
    have c1 : (i : Int) < L.length := by omega
    have c0 : (0 : Int) ≤ i := by omega
    have w2 : IntKind.i64.wrap ((i : Int) + 1) = ((i + 1 : Nat) : Int) := by rw [w64_id (by omega) (by omega)]; omega
    simp only [go_sem, ↓reduceIte, Nat.reduceEqDiff, Nat.reduceLeDiff, Nat.reduceAdd, Nat.reduceMul, Nat.reduceSub, Nat.reduceBEq, Nat.reduceGT, Nat.reduceLT, Int.reduceLE, Int.reduceLT, Int.reduceNeg, reduceCtorEq, c15_L0, e0, e1, e5, c0, c1, Int.toNat_natCast, gs, str_dec, w2]
    refine ⟨fun hd => ?_, fun hd => ?_⟩
    · have : hasN L n = some i := by
        unfold hasN
        rw [List.findIdx?_eq_some_iff_getElem]
        refine ⟨hlt, by rw [List.getElem?_eq_getElem hlt] at hLi; cases hLi; simpa using hd, fun j hj => ?_⟩
        have := hno j _ hj (List.getElem?_eq_getElem (by omega))
        simpa using this
      unfold hasS
      rw [this]
    · refine ⟨Hold.mk ⟨rfl, i + 1, by simp only [go_sem, ↓reduceIte, Nat.reduceEqDiff, Nat.reduceLeDiff, Nat.reduceAdd, Nat.reduceMul, Nat.reduceSub, Nat.reduceBEq, Nat.reduceGT, Nat.reduceLT, Int.reduceLE, Int.reduceLT, Int.reduceNeg, reduceCtorEq, e0], by simp only [go_sem, ↓reduceIte, Nat.reduceEqDiff, Nat.reduceLeDiff, Nat.reduceAdd, Nat.reduceMul, Nat.reduceSub, Nat.reduceBEq, Nat.reduceGT, Nat.reduceLT, Int.reduceLE, Int.reduceLT, Int.reduceNeg, reduceCtorEq, e1], by simp only [go_sem, ↓reduceIte, Nat.reduceEqDiff, Nat.reduceLeDiff, Nat.reduceAdd, Nat.reduceMul, Nat.reduceSub, Nat.reduceBEq, Nat.reduceGT, Nat.reduceLT, Int.reduceLE, Int.reduceLT, Int.reduceNeg, reduceCtorEq], by omega, fun j y hj hy => ?_⟩, by omega⟩
      by_cases hji : j = i
      · subst hji; rw [hLi] at hy; cases hy; exact hd
      · exact hno j y (by omega) hy
  · have c1 : ¬ (i : Int) < L.length := by omega
    simp only [go_sem, ↓reduceIte, Nat.reduceEqDiff, Nat.reduceLeDiff, Nat.reduceAdd, Nat.reduceMul, Nat.reduceSub, Nat.reduceBEq, Nat.reduceGT, Nat.reduceLT, Int.reduceLE, Int.reduceLT, Int.reduceNeg, reduceCtorEq, c15_L0, e0, e1, e5, c1]
    have : hasN L n = none := by
      rw [hasN_none, look_none]
      intro x hx
      obtain ⟨j, hj, hjx⟩ := List.getElem_of_mem hx
      exact hno j x (by omega) (by rw [List.getElem?_eq_getElem hj, hjx])
    unfold hasS
    rw [this]
theorem F47 {H : Heap} {N : Nat → Prop} {v : Value} {P : List (Value × Fl)} (hv : RecP fileK H N 44 5 v P) (hN : ∀ g, N g → g < H.size) (hl : P.length ≤ 2932031000000) (i : Int) :
    Fun Try.prog 47 #[v, .int .i64 i] H (fun r H' => RecO fileK H' H.size N 44 5 r (dropL P i) ∧ Ext H H') := by
  obtain ⟨a, c, rfl⟩ := hv.form
  refine fun_of mixed (args := [_, _]) Try.func47 Try.ntmps47 b47 r47 rfl ?_
  simp only [go_sem, ↓reduceIte, Nat.reduceEqDiff, Nat.reduceLeDiff, Nat.reduceAdd, Nat.reduceMul, Nat.reduceSub, Nat.reduceBEq, Nat.reduceGT, Nat.reduceLT, Int.reduceLE, Int.reduceLT, Int.reduceNeg, reduceCtorEq]
  refine LoopI.by mixed (fun ρ H' => ∃ (j : Nat) (m : Value), ρ 0 = .slice a P.length c ∧ ρ 1 = .int .i64 i ∧ ρ 5 = m ∧ ρ 6 = .int .i64 j ∧ j ≤ P.length ∧ RecO fileK H' H.size N 44 5 m (dropL (P.take j) i) ∧ Ext H H') (fun ρ _ => P.length - (iof (ρ 6)).toNat) ?_ ?_
  · refine ⟨0, _, by simp only [go_sem, ↓reduceIte, Nat.reduceEqDiff, Nat.reduceLeDiff, Nat.reduceAdd, Nat.reduceMul, Nat.reduceSub, Nat.reduceBEq, Nat.reduceGT, Nat.reduceLT, Int.reduceLE, Int.reduceLT, Int.reduceNeg, reduceCtorEq], by simp only [go_sem, ↓reduceIte, Nat.reduceEqDiff, Nat.reduceLeDiff, Nat.reduceAdd, Nat.reduceMul, Nat.reduceSub, Nat.reduceBEq, Nat.reduceGT, Nat.reduceLT, Int.reduceLE, Int.reduceLT, Int.reduceNeg, reduceCtorEq], by simp only [go_sem, ↓reduceIte, Nat.reduceEqDiff, Nat.reduceLeDiff, Nat.reduceAdd, Nat.reduceMul, Nat.reduceSub, Nat.reduceBEq, Nat.reduceGT, Nat.reduceLT, Int.reduceLE, Int.reduceLT, Int.reduceNeg, reduceCtorEq]; rfl, by simp only [go_sem, ↓reduceIte, Nat.reduceEqDiff, Nat.reduceLeDiff, Nat.reduceAdd, Nat.reduceMul, Nat.reduceSub, Nat.reduceBEq, Nat.reduceGT, Nat.reduceLT, Int.reduceLE, Int.reduceLT, Int.reduceNeg, reduceCtorEq]; rfl, by omega, ?_, Upto.refl _ _⟩
    have : dropL (P.take 0) i = [] := by unfold dropL; simp
    rw [this]
    exact RecO.nil
  rintro ρ H' ⟨j, m, e0, e1, e5, e6, hj, ho, hx⟩
  by_cases hlt : j < P.length
  · have hv' := hv.ext hx
    obtain ⟨b, o, rfl⟩ := hv'.at hlt
    obtain ⟨⟨w1, x⟩, hxi⟩ : ∃ p, P[j]? = some p := ⟨_, List.getElem?_eq_getElem hlt⟩
    obtain ⟨_, g0, g2, g3⟩ := hv'.get hxi
    have gs := g0 0 (by decide)
    have gd := g0 1 (by decide)
    simp only [Nat.add_zero, List.getElem?_cons_zero, List.getElem?_cons_succ] at gs gd
    have c1 : (j : Int) < P.length := by omega
    have c0 : (0 : Int) ≤ j := by omega
    have w2 : IntKind.i64.wrap ((j : Int) + 1) = ((j + 1 : Nat) : Int) := by rw [w64_id (by omega) (by omega)]; omega
    have hst := dropL_step (i := i) hxi
    have hmN : ∀ g, blk m = some g → ¬ N g := fun g hg hn => by have := (ho.1.blk hg).1; have := hN g hn; omega
    by_cases hji : (j : Int) = i
    · subst hji
      rw [if_pos rfl] at hst
      simp only [go_sem, ↓reduceIte, Nat.reduceEqDiff, Nat.reduceLeDiff, Nat.reduceAdd, Nat.reduceMul, Nat.reduceSub, Nat.reduceBEq, Nat.reduceGT, Nat.reduceLT, Int.reduceLE, Int.reduceLT, Int.reduceNeg, reduceCtorEq, c47_L0, e0, e1, e5, e6, c0, c1, w2, Int.toNat_natCast]
      exact ⟨Hold.mk ⟨j + 1, m, by simp only [go_sem, ↓reduceIte, Nat.reduceEqDiff, Nat.reduceLeDiff, Nat.reduceAdd, Nat.reduceMul, Nat.reduceSub, Nat.reduceBEq, Nat.reduceGT, Nat.reduceLT, Int.reduceLE, Int.reduceLT, Int.reduceNeg, reduceCtorEq, e0], by simp only [go_sem, ↓reduceIte, Nat.reduceEqDiff, Nat.reduceLeDiff, Nat.reduceAdd, Nat.reduceMul, Nat.reduceSub, Nat.reduceBEq, Nat.reduceGT, Nat.reduceLT, Int.reduceLE, Int.reduceLT, Int.reduceNeg, reduceCtorEq, e1], by simp only [go_sem, ↓reduceIte, Nat.reduceEqDiff, Nat.reduceLeDiff, Nat.reduceAdd, Nat.reduceMul, Nat.reduceSub, Nat.reduceBEq, Nat.reduceGT, Nat.reduceLT, Int.reduceLE, Int.reduceLT, Int.reduceNeg, reduceCtorEq, e5], by simp only [go_sem, ↓reduceIte, Nat.reduceEqDiff, Nat.reduceLeDiff, Nat.reduceAdd, Nat.reduceMul, Nat.reduceSub, Nat.reduceBEq, Nat.reduceGT, Nat.reduceLT, Int.reduceLE, Int.reduceLT, Int.reduceNeg, reduceCtorEq], by omega, by rw [hst]; exact ho, hx⟩, by omega⟩
    · rw [if_neg hji] at hst
      obtain ⟨a1, l1, cc1, rfl⟩ := Sl.form g2
      have n1 : (fileK.c (.slice a1 l1 cc1) x).all Value.oneCell' = true := rfl
      have hlen := dropL_len (P.take j) i
      rw [List.length_take] at hlen
      simp only [go_sem, ↓reduceIte, Nat.reduceEqDiff, Nat.reduceLeDiff, Nat.reduceAdd, Nat.reduceMul, Nat.reduceSub, Nat.reduceBEq, Nat.reduceGT, Nat.reduceLT, Int.reduceLE, Int.reduceLT, Int.reduceNeg, reduceCtorEq, c47_L0, e0, e1, e5, e6, c0, c1, w2, hji, Int.toNat_natCast, gs, gd, Option.bind_some]
      refine RunI.by (RecO.add (R := fileK) (x := x) ty26 ty44 rfl hmN ho g2 g3 n1 (by omega) (by omega) hx.size) ?_
      rintro m' H2 ⟨o2, gw, _, _⟩
      simp only [go_sem, ↓reduceIte, Nat.reduceEqDiff, Nat.reduceLeDiff, Nat.reduceAdd, Nat.reduceMul, Nat.reduceSub, Nat.reduceBEq, Nat.reduceGT, Nat.reduceLT, Int.reduceLE, Int.reduceLT, Int.reduceNeg, reduceCtorEq, e6, w2]
      refine ⟨Hold.mk ⟨j + 1, m', by simp only [go_sem, ↓reduceIte, Nat.reduceEqDiff, Nat.reduceLeDiff, Nat.reduceAdd, Nat.reduceMul, Nat.reduceSub, Nat.reduceBEq, Nat.reduceGT, Nat.reduceLT, Int.reduceLE, Int.reduceLT, Int.reduceNeg, reduceCtorEq, e0], by simp only [go_sem, ↓reduceIte, Nat.reduceEqDiff, Nat.reduceLeDiff, Nat.reduceAdd, Nat.reduceMul, Nat.reduceSub, Nat.reduceBEq, Nat.reduceGT, Nat.reduceLT, Int.reduceLE, Int.reduceLT, Int.reduceNeg, reduceCtorEq, e1], by simp only [go_sem, ↓reduceIte, Nat.reduceEqDiff, Nat.reduceLeDiff, Nat.reduceAdd, Nat.reduceMul, Nat.reduceSub, Nat.reduceBEq, Nat.reduceGT, Nat.reduceLT, Int.reduceLE, Int.reduceLT, Int.reduceNeg, reduceCtorEq], by simp only [go_sem, ↓reduceIte, Nat.reduceEqDiff, Nat.reduceLeDiff, Nat.reduceAdd, Nat.reduceMul, Nat.reduceSub, Nat.reduceBEq, Nat.reduceGT, Nat.reduceLT, Int.reduceLE, Int.reduceLT, Int.reduceNeg, reduceCtorEq], by omega, by rw [hst]; exact o2, hx.trans (gw.upto ho.1 hx.size)⟩, by omega⟩
  · have c1 : ¬ (j : Int) < P.length := by omega
    simp only [go_sem, ↓reduceIte, Nat.reduceEqDiff, Nat.reduceLeDiff, Nat.reduceAdd, Nat.reduceMul, Nat.reduceSub, Nat.reduceBEq, Nat.reduceGT, Nat.reduceLT, Int.reduceLE, Int.reduceLT, Int.reduceNeg, reduceCtorEq, c47_L0, e0, e1, e5, e6, c1]
    have : j = P.length := by omega
    subst this
    rw [List.take_of_length_le (Nat.le_refl _)] at ho
    exact ⟨ho, hx⟩
end Go.Proofs.Ytmkheogjnlmkdaa
