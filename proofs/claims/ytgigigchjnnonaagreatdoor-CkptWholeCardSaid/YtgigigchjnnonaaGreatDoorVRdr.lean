/- The reader of bytes: a new one, one number read, its error, what is left. -/
import Derived.Test.YtgigigchjnnonaaGreatDoorVForm
set_option linter.unusedSimpArgs false
set_option linter.unusedVariables false
set_option maxRecDepth 20000
namespace Go.Proofs.YtgigigchjnnonaaGreatDoor
open Go Go.V

/-- A reader of bytes: where it stands, what is wrong. -/
def Rdr (H : Heap) (B : Nat) (e : TypeId) (v : Value) (xs : List Int) (s : Nat × Int) : Prop :=
  ∃ b u, v = .pointer (some ⟨b, 0, none⟩) ∧ B ≤ b ∧ H[b]? = some (.cells #[u, .int .i64 s.1, .int .i64 s.2] e) ∧ V.Own H B 5 1 u (xs.map (.int .u8)) ∧ s.1 ≤ xs.length
theorem Rdr.lt {H : Heap} {B : Nat} {e : TypeId} {xs : List Int} {s : Nat × Int} {b : Nat} (h : Rdr H B e (.pointer (some ⟨b, 0, none⟩)) xs s) : b < H.size := by
  obtain ⟨b', u, he, _, hb, _⟩ := h
  cases he
  exact (Array.getElem?_eq_some_iff.1 hb).1
theorem Rdr.ext {H H' : Heap} {B : Nat} {e : TypeId} {v : Value} {xs : List Int} {s : Nat × Int} (h : Rdr H B e v xs s) (hx : Ext H H') : Rdr H' B e v xs s := by
  obtain ⟨b, u, h1, h2, h3, h4, h5⟩ := h
  exact ⟨b, u, h1, h2, (hx.get b (Array.getElem?_eq_some_iff.1 h3).1).trans h3, h4.ext hx, h5⟩
theorem Rdr.mono {H : Heap} {B B' : Nat} {e : TypeId} {v : Value} {xs : List Int} {s : Nat × Int} (h : Rdr H B e v xs s) (hb : B' ≤ B) : Rdr H B' e v xs s := by
  obtain ⟨b, u, h1, h2, h3⟩ := h
  exact ⟨b, u, h1, by omega, h3.1, h3.2.1.mono hb, h3.2.2⟩

theorem lead_le : ∀ (n : Nat) (xs : List Int), lead n xs ≤ n ∧ lead n xs ≤ xs.length
  | 0, xs => by simp [lead]
  | n + 1, [] => by simp [lead]
  | n + 1, x :: xs => by
    have := lead_le n xs
    simp only [lead, List.length_cons]
    split <;> omega
theorem vform_len (xs : List Int) : 0 ≤ (vform xs).2.1 ∧ (vform xs).2.1 ≤ xs.length := by
  have := lead_le 9 xs
  unfold vform
  split
  · simp
  · split
    · simp
    · split
      · simp
      · simp only; omega
theorem vform_err (xs : List Int) : 0 ≤ (vform xs).2.2 ∧ (vform xs).2.2 ≤ 12 := by
  unfold vform
  split
  · simp
  · split
    · simp
    · split <;> simp
/-- One number read. -/
def rstep (xs : List Int) (s : Nat × Int) : Nat × Int := if s.2 = 0 then (s.1 + (vform (xs.drop s.1)).2.1.toNat, (vform (xs.drop s.1)).2.2) else s
def rval (xs : List Int) (s : Nat × Int) : Int := if s.2 = 0 then (vform (xs.drop s.1)).1 else 0
theorem rstep_le {xs : List Int} {s : Nat × Int} (h : s.1 ≤ xs.length) : (rstep xs s).1 ≤ xs.length := by
  unfold rstep
  split
  · have := vform_len (xs.drop s.1)
    simp only [List.length_drop] at this
    simp only
    omega
  · exact h

theorem F97 (v : Value) (xs : List Int) (H : Heap) (hs : Ints H 5 .u8 v xs) (hl : xs.length ≤ 140737488350000) :
    Fun Tryz.prog 97 #[v] H (fun r H' => Rdr H' H.size 209 r xs (0, 0) ∧ Ext H H') := by
  refine fun_of mixed (args := [_]) Tryz.func97 Tryz.ntmps97 b97 r97 rfl ?_
  simp only [go_sem, ↓reduceIte, Nat.reduceEqDiff, Nat.reduceLeDiff, Nat.reduceAdd, Nat.reduceMul, Nat.reduceSub, Nat.reduceBEq, Nat.reduceGT, Nat.reduceLT, Int.reduceLE, Int.reduceLT, Int.reduceNeg, reduceCtorEq]
  refine FunI.by (F86 v xs 0 H hs hl (by omega) (by omega)) ?_
  rintro u H1 ⟨hu, hx⟩
  obtain ⟨_, _, rfl⟩ := (show Ints H1 5 .u8 u xs from hu.sl).form
  simp only [go_sem, ↓reduceIte, Nat.reduceEqDiff, Nat.reduceLeDiff, Nat.reduceAdd, Nat.reduceMul, Nat.reduceSub, Nat.reduceBEq, Nat.reduceGT, Nat.reduceLT, Int.reduceLE, Int.reduceLT, Int.reduceNeg, reduceCtorEq]
  exact ⟨⟨H1.size, _, rfl, hx.size, push_new, (V.Own.ext hu (Ext.push _)).mono (by first | exact Nat.le_refl _ | exact hx.size), Nat.zero_le _⟩, hx.trans ((Ext.push _).mono hx.size)⟩

set_option maxRecDepth 20000 in
theorem F98 (B : Nat) (v : Value) (xs : List Int) (s : Nat × Int) (H : Heap) (hr : Rdr H B 209 v xs s) (hw : Byt xs) (hl : xs.length ≤ 140737488350000) :
    Fun Tryz.prog 98 #[v] H (fun r H' => r = .int .i64 (rval xs s) ∧ Rdr H' B 209 v xs (rstep xs s) ∧ H'.size = H.size ∧ ∀ k, Value.pointer (some ⟨k, 0, none⟩) ≠ v → H'[k]? = H[k]?) := by
  obtain ⟨b, u, rfl, hB, hb, ho, hp⟩ := hr
  have hu : Ints H 5 .u8 u xs := ho.sl
  obtain ⟨a, c, rfl⟩ := hu.form
  obtain ⟨p, e⟩ := s
  simp only at hb hp
  refine fun_of mixed (args := [_]) Tryz.func98 Tryz.ntmps98 b98 r98 rfl ?_
  have g0 : hget H b 0 = some (.slice a xs.length c) := by simp only [hget, hb]; rfl
  have g1 : hget H b 1 = some (.int .i64 p) := by simp only [hget, hb]; rfl
  have g2 : hget H b 2 = some (.int .i64 e) := by simp only [hget, hb]; rfl
  by_cases he : e = 0
  · subst he
    have hsub : Ints H 5 .u8 (.slice (if c = p then a else Option.map (fun x => x.add p) a) (xs.length - p) (c - p)) (xs.drop p) := by
      have h := Sl.sub (l := p) (h := xs.length) (m := c) hu hp (Nat.le_refl _) hu.lecap
      simp only [Nat.mul_one, ← List.map_drop] at h
      have e : (List.map (Value.int .u8) (xs.drop p)).take (xs.length - p) = List.map (Value.int .u8) (xs.drop p) := List.take_of_length_le (by simp)
      rw [e] at h
      exact h
    have hfl := vform_len (xs.drop p)
    have hfe := vform_err (xs.drop p)
    simp only [List.length_drop] at hfl
    simp only [go_sem, ↓reduceIte, Nat.reduceEqDiff, Nat.reduceLeDiff, Nat.reduceAdd, Nat.reduceMul, Nat.reduceSub, Nat.reduceBEq, Nat.reduceGT, Nat.reduceLT, Int.reduceLE, Int.reduceLT, Int.reduceNeg, reduceCtorEq, g0, g1, g2, Int.toNat_natCast]
    refine ⟨by omega, FunIQ.by (F207 _ (xs.drop p) H hsub (fun x hx => hw x (List.mem_of_mem_drop hx))) ?_⟩
    simp only [go_sem, ↓reduceIte, Nat.reduceEqDiff, Nat.reduceLeDiff, Nat.reduceAdd, Nat.reduceMul, Nat.reduceSub, Nat.reduceBEq, Nat.reduceGT, Nat.reduceLT, Int.reduceLE, Int.reduceLT, Int.reduceNeg, reduceCtorEq, g1, w64_id (n := (p : Int) + (vform (xs.drop p)).2.1) (by omega) (by omega)]
    have hb1 : (hput H b 1 [.int .i64 ((p : Int) + (vform (xs.drop p)).2.1)])[b]? = some (.cells #[.slice a xs.length c, .int .i64 ((p : Int) + (vform (xs.drop p)).2.1), .int .i64 0] 209) := hput_same hb
    have hb2 : (hput (hput H b 1 [.int .i64 ((p : Int) + (vform (xs.drop p)).2.1)]) b 2 [.int .i64 (vform (xs.drop p)).2.2])[b]? = some (.cells #[.slice a xs.length c, .int .i64 ((p : Int) + (vform (xs.drop p)).2.1), .int .i64 (vform (xs.drop p)).2.2] 209) := hput_same hb1
    refine ⟨rfl, hcan_of hb (by simp), rfl, hcan_of hb1 (by simp), by simp [rval], ⟨b, .slice a xs.length c, rfl, hB, ?_, ?_, rstep_le (s := (p, 0)) hp⟩, by rw [hput_size, hput_size], ?_⟩
    · rw [hb2]
      have e1 : (p : Int) + (vform (xs.drop p)).2.1 = ((p + (vform (xs.drop p)).2.1.toNat : Nat) : Int) := by omega
      simp [rstep, e1]
    · refine ho.keepT fun k cc fr hk => ?_
      have hkb : k ≠ b := by
        rintro rfl
        rw [hb] at hk
        cases hk
      rw [hput_other _ _ _ _ hkb, hput_other _ _ _ _ hkb]
    · intro k hk
      have hkb : k ≠ b := fun h => hk (by rw [h])
      rw [hput_other _ _ _ _ hkb, hput_other _ _ _ _ hkb]
  · simp only [go_sem, ↓reduceIte, Nat.reduceEqDiff, Nat.reduceLeDiff, Nat.reduceAdd, Nat.reduceMul, Nat.reduceSub, Nat.reduceBEq, Nat.reduceGT, Nat.reduceLT, Int.reduceLE, Int.reduceLT, Int.reduceNeg, reduceCtorEq, g2, he]
    refine ⟨by simp [rval, he], ⟨b, _, rfl, hB, by simpa [rstep, he] using hb, ho, by simpa [rstep, he] using hp⟩, fun _ _ => trivial⟩

theorem F99 (B : Nat) (v : Value) (xs : List Int) (s : Nat × Int) (H : Heap) (hr : Rdr H B 209 v xs s) :
    Fun Tryz.prog 99 #[v] H (fun r H' => r = .tuple #[.int .i64 s.2, .int .i64 s.1] ∧ H = H') := by
  obtain ⟨b, u, rfl, hB, hb, ho, hp⟩ := hr
  have hu : Ints H 5 .u8 u xs := ho.sl
  obtain ⟨p, e⟩ := s
  have g1 : hget H b 1 = some (.int .i64 p) := by simp only [hget, hb]; rfl
  have g2 : hget H b 2 = some (.int .i64 e) := by simp only [hget, hb]; rfl
  refine fun_of mixed (args := [_]) Tryz.func99 Tryz.ntmps99 b99 r99 rfl ?_
  simp only [go_sem, ↓reduceIte, Nat.reduceEqDiff, Nat.reduceLeDiff, Nat.reduceAdd, Nat.reduceMul, Nat.reduceSub, Nat.reduceBEq, Nat.reduceGT, Nat.reduceLT, Int.reduceLE, Int.reduceLT, Int.reduceNeg, reduceCtorEq, g1, g2]

theorem F100 (B : Nat) (v : Value) (xs : List Int) (s : Nat × Int) (H : Heap) (hr : Rdr H B 209 v xs s) (hl : xs.length ≤ 140737488350000) :
    Fun Tryz.prog 100 #[v] H (fun r H' => r = .int .i64 (if s.2 = 0 then (xs.length : Int) - s.1 else 0) ∧ H = H') := by
  obtain ⟨b, u, rfl, hB, hb, ho, hp⟩ := hr
  have hu : Ints H 5 .u8 u xs := ho.sl
  obtain ⟨a, c, rfl⟩ := hu.form
  obtain ⟨p, e⟩ := s
  simp only at hb hp
  have g0 : hget H b 0 = some (.slice a xs.length c) := by simp only [hget, hb]; rfl
  have g1 : hget H b 1 = some (.int .i64 p) := by simp only [hget, hb]; rfl
  have g2 : hget H b 2 = some (.int .i64 e) := by simp only [hget, hb]; rfl
  refine fun_of mixed (args := [_]) Tryz.func100 Tryz.ntmps100 b100 r100 rfl ?_
  by_cases he : e = 0
  · subst he
    simp only [go_sem, ↓reduceIte, Nat.reduceEqDiff, Nat.reduceLeDiff, Nat.reduceAdd, Nat.reduceMul, Nat.reduceSub, Nat.reduceBEq, Nat.reduceGT, Nat.reduceLT, Int.reduceLE, Int.reduceLT, Int.reduceNeg, reduceCtorEq, g0, g1, g2]
    rw [w64_id (by omega) (by omega)]
  · simp only [go_sem, ↓reduceIte, Nat.reduceEqDiff, Nat.reduceLeDiff, Nat.reduceAdd, Nat.reduceMul, Nat.reduceSub, Nat.reduceBEq, Nat.reduceGT, Nat.reduceLT, Int.reduceLE, Int.reduceLT, Int.reduceNeg, reduceCtorEq, g0, g1, g2, he]
end Go.Proofs.YtgigigchjnnonaaGreatDoor
