/- The payloads of a reader, handed to a yield. -/
import Derived.Test.YtgigigchjnnonaaGreatDoorVRd
import Derived.Test.YtgigigchjnnonaaGreatDoorVRange
set_option linter.unusedSimpArgs false
set_option linter.unusedVariables false
set_option maxRecDepth 20000
namespace Go.V
open Go
def iofH (H : Heap) (w o : Nat) : Int := iof ((hget H w o).getD undef)
end Go.V
namespace Go.Proofs.YtgigigchjnnonaaGreatDoor
open Go Go.V
theorem decF_len {b : List Int} (hb : Byt b) (h : (decF b).2.2.2 = 0) : 12 ≤ (decF b).2.2.1 ∧ (decF b).2.2.1 ≤ b.length ∧ (decF b).2.2.1 = 12 + (decF b).2.1.length := by
  have h2 := byt_getD hb 2
  have h3 := byt_getD hb 3
  unfold decF at h ⊢
  split
  · rename_i h0; rw [if_pos h0] at h; cases h
  rename_i h0
  rw [if_neg h0] at h
  simp only at h ⊢
  split
  · rename_i h1; rw [if_pos h1] at h; cases h
  rename_i h1
  rw [if_neg h1] at h
  split
  · rename_i h4; rw [if_pos h4] at h; cases h
  simp only [not_or, Classical.not_not] at h1
  obtain ⟨_, q1, q2, _⟩ := h1
  simp only [List.length_take, List.length_drop]
  omega
theorem read_room {s : St} (ok : Ok s) (n : Nm) {a k : Int} (ha : 0 ≤ a) (h : 0 < (readS s n a k).1.length) : a + (readS s n a k).1.length ≤ 2147483647 := by
  unfold readS at h ⊢
  split
  · rename_i x e he
    simp only [he] at h
    split
    · rename_i h1; rw [if_pos h1] at h; simp at h
    · rename_i h1
      rw [if_neg h1] at h
      obtain ⟨hn, _, _⟩ := find_now he
      have h5 := dat_le ok (ok.nowH _ _ hn)
      have h6 := ok.room.2
      simp only [List.length_take, List.length_drop] at h ⊢
      omega
  · rename_i e he
    simp only [he] at h
    simp at h
theorem nextR_more {s : St} (ok : Ok s) {x : RdS} (hx : 0 ≤ x.at') (h : (nextR s x).2.2.1 = true) : x.at' + 12 ≤ (nextR s x).1.at' ∧ (nextR s x).1.at' ≤ 2147483647 ∧ (nextR s x).1.data = x.data + 1 ∧ (nextR s x).2.2.2 = 0 := by
  have hk := nextF_keeps s x
  unfold nextR at h ⊢
  split
  · rename_i h0; rw [if_pos h0] at h; cases h
  rename_i h0
  rw [if_neg h0] at h
  simp only at h ⊢
  split
  · rename_i h1
    refine ⟨?_, ?_, by simp only [hk.1], rfl⟩
    all_goals
      have h2 := h1.1
      unfold nextF at h2 ⊢
      simp only at h2 ⊢
      split at h2
      · rename_i h3; simp only at h2; exact absurd h2 h3
      · rename_i h3
        rw [if_neg h3]
        split at h2
        · cases h2
        · rename_i h4
          rw [if_neg h4]
          obtain ⟨d1, d2, d3⟩ := decF_len (read_byt ok x.name x.at' 1036) (Classical.not_not.1 h4)
          have := read_room ok x.name (k := 1036) hx (by omega)
          simp only
          omega
  · rename_i h1; rw [if_neg h1] at h; cases h
theorem F209 {σ : Type} {S : σ → St} {X : σ → RdS} {Fp : σ → Nat → Prop} {J : σ → Heap → Prop} {Z : Heap → Prop} {b w c l : Nat} {H : Heap} (a0 : σ) (h0 : J a0 H)
    (good : ∀ a H, J a H → FsH H (Fp a) b (S a) ∧ Ok (S a) ∧ RdH H w b (X a) ∧ ¬ Fp a w ∧ CrcTab H ∧ 0 ≤ (X a).at' ∧ (X a).at' ≤ 2147483647 ∧ 0 ≤ (X a).data ∧ (X a).data ≤ (X a).at' ∧ H[c]? = some (.cells #[ptrOf w] 155))
    (step : ∀ a H H1 u, J a H → FsH H1 (Fp a) b (S a) → RdH H1 w b (nextR (S a) (X a)).1 → ChX (· = w) (fun _ => False) (fun _ => False) H H1 → V.Own H1 H.size 5 1 u ((nextR (S a) (X a)).2.1.map (.int .u8)) →
      if (nextR (S a) (X a)).2.2.2 ≠ 0 then YieldF Tryz.prog l #[.slice none 0 0, .int .i64 (nextR (S a) (X a)).2.2.2] H1 (fun _ H2 => Z H2)
      else if (nextR (S a) (X a)).2.2.1 = true then YieldF Tryz.prog l #[u, .int .i64 0] H1 (fun v H2 => ∃ t, v = .bool t ∧ if t = true then ∃ a', J a' H2 ∧ (X a').at' = (nextR (S a) (X a)).1.at' else Z H2)
      else Z H1) :
    Fun Tryz.prog 209 #[.func (.yield l) #[] #[], ptrOf c] H (fun _ H' => Z H') := by
  refine fun_ofR mixed (args := [_, _]) Tryz.func209 Tryz.ntmps209 b209 r209 rfl ?_
  simp only [go_sem, ↓reduceIte, Nat.reduceEqDiff, Nat.reduceLeDiff, Nat.reduceAdd, Nat.reduceMul, Nat.reduceSub, Nat.reduceBEq, Nat.reduceGT, Nat.reduceLT, Int.reduceLE, Int.reduceLT, Int.reduceNeg, reduceCtorEq]
  refine LoopRI.by mixed (fun ρ H' => ∃ a, ρ 0 = .func (.yield l) #[] #[] ∧ ρ 1 = ptrOf c ∧ J a H') (fun _ H' => (2147483648 - iofH H' w 2).toNat) ?_ ?_
  · simp only [go_sem, ↓reduceIte, Nat.reduceEqDiff, Nat.reduceLeDiff, Nat.reduceAdd, Nat.reduceMul, Nat.reduceSub, Nat.reduceBEq, Nat.reduceGT, Nat.reduceLT, Int.reduceLE, Int.reduceLT, Int.reduceNeg, reduceCtorEq]
    exact ⟨a0, h0⟩
  rintro ρ H1 ⟨a, r0, r1, hJ⟩
  obtain ⟨g1, g2, g3, g4, g5, g6, g7, g8, g9, g10⟩ := good a H1 hJ
  have hc : hget H1 c 0 = some (ptrOf w) := hget_cells g10
  simp only [ptrOf] at r1 hc
  simp only [c209_L0, go_sem, ↓reduceIte, Nat.reduceEqDiff, Nat.reduceLeDiff, Nat.reduceAdd, Nat.reduceMul, Nat.reduceSub, Nat.reduceBEq, Nat.reduceGT, Nat.reduceLT, Int.reduceLE, Int.reduceLT, Int.reduceNeg, reduceCtorEq, r0, r1, hc]
  refine FunI.by (F210 g1 g2 g3 g4 g5 (by omega) (by omega)) ?_
  rintro _ H2 ⟨u, rfl, ou, h2, hw2, cx2⟩
  have st := step a H1 H2 u hJ h2 hw2 cx2 ou
  have nm := nextR_more g2 (x := X a) g6
  obtain ⟨n, hn⟩ : ∃ n, n = nextR (S a) (X a) := ⟨_, rfl⟩
  rw [← hn] at st nm hw2 ou ⊢
  clear hn
  obtain ⟨pa, pl, pc, rfl⟩ := ou.sl.form
  by_cases c1 : n.2.2.2 ≠ 0
  · rw [if_pos c1] at st
    simp only [go_sem, ↓reduceIte, Nat.reduceEqDiff, Nat.reduceLeDiff, Nat.reduceAdd, Nat.reduceMul, Nat.reduceSub, Nat.reduceBEq, Nat.reduceGT, Nat.reduceLT, Int.reduceLE, Int.reduceLT, Int.reduceNeg, reduceCtorEq, c1, r0]
    refine YieldI.by st ?_
    intro v H3 hZ
    simp only [go_sem, ↓reduceIte, Nat.reduceEqDiff, Nat.reduceLeDiff, Nat.reduceAdd, Nat.reduceMul, Nat.reduceSub, Nat.reduceBEq, Nat.reduceGT, Nat.reduceLT, Int.reduceLE, Int.reduceLT, Int.reduceNeg, reduceCtorEq]
    exact hZ
  rw [if_neg c1] at st
  have c1' := Classical.not_not.1 c1
  by_cases c2 : n.2.2.1 = true
  · rw [if_pos c2] at st
    obtain ⟨nm1, nm2, nm3, nm4⟩ := nm c2
    simp only [go_sem, ↓reduceIte, Nat.reduceEqDiff, Nat.reduceLeDiff, Nat.reduceAdd, Nat.reduceMul, Nat.reduceSub, Nat.reduceBEq, Nat.reduceGT, Nat.reduceLT, Int.reduceLE, Int.reduceLT, Int.reduceNeg, reduceCtorEq, c1', c2, r0]
    refine YieldI.by st ?_
    rintro v H3 ⟨t, rfl, hZ⟩
    cases t with
    | true =>
      rw [if_pos rfl] at hZ
      obtain ⟨a', hJ', ea⟩ := hZ
      obtain ⟨_, _, k3, _, _, k6, k7, _⟩ := good a' H3 hJ'
      have m1 : iofH H1 w 2 = (X a).at' := by unfold iofH; rw [g3.get.2.2.1]; rfl
      have m3 : iofH H3 w 2 = (X a').at' := by unfold iofH; rw [k3.get.2.2.1]; rfl
      simp only [go_sem, ↓reduceIte, Nat.reduceEqDiff, Nat.reduceLeDiff, Nat.reduceAdd, Nat.reduceMul, Nat.reduceSub, Nat.reduceBEq, Nat.reduceGT, Nat.reduceLT, Int.reduceLE, Int.reduceLT, Int.reduceNeg, reduceCtorEq]
      refine ⟨Hold.mk ⟨a', ?_, ?_, hJ'⟩, ?_⟩
      · simp only [go_sem, ↓reduceIte, Nat.reduceEqDiff, Nat.reduceLeDiff, Nat.reduceAdd, Nat.reduceMul, Nat.reduceSub, Nat.reduceBEq, Nat.reduceGT, Nat.reduceLT, Int.reduceLE, Int.reduceLT, Int.reduceNeg, reduceCtorEq, r0]
      · simp only [go_sem, ↓reduceIte, Nat.reduceEqDiff, Nat.reduceLeDiff, Nat.reduceAdd, Nat.reduceMul, Nat.reduceSub, Nat.reduceBEq, Nat.reduceGT, Nat.reduceLT, Int.reduceLE, Int.reduceLT, Int.reduceNeg, reduceCtorEq, r1, ptrOf]
      · rw [m1, m3, ea]; omega
    | false =>
      rw [if_neg (by decide)] at hZ
      simp only [go_sem, ↓reduceIte, Nat.reduceEqDiff, Nat.reduceLeDiff, Nat.reduceAdd, Nat.reduceMul, Nat.reduceSub, Nat.reduceBEq, Nat.reduceGT, Nat.reduceLT, Int.reduceLE, Int.reduceLT, Int.reduceNeg, reduceCtorEq]
      exact hZ
  have c2' : n.2.2.1 = false := by simpa using c2
  rw [if_neg c2] at st
  simp only [go_sem, ↓reduceIte, Nat.reduceEqDiff, Nat.reduceLeDiff, Nat.reduceAdd, Nat.reduceMul, Nat.reduceSub, Nat.reduceBEq, Nat.reduceGT, Nat.reduceLT, Int.reduceLE, Int.reduceLT, Int.reduceNeg, reduceCtorEq, c1', c2']
  exact st
end Go.Proofs.YtgigigchjnnonaaGreatDoor
