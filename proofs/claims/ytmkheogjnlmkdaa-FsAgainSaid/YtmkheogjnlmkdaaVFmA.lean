/- Two file systems that can't be told apart. -/
import Derived.Test.YtmkheogjnlmkdaaVFlV
import Derived.Test.YtmkheogjnlmkdaaVFsI
set_option linter.unusedSimpArgs false
set_option linter.unusedVariables false
set_option maxRecDepth 20000
namespace Go.V
open Go
structure Sim (φ : Nat → Nat) (s t : St) : Prop where
  inj : ∀ x ∈ s.held, ∀ y ∈ s.held, φ x = φ y → x = y
  held : ∀ y, y ∈ t.held ↔ ∃ x ∈ s.held, φ x = y
  now : ∀ n, t.now n = (s.now n).map φ
  last : ∀ n, t.last n = (s.last n).map φ
  pend : t.pend = s.pend.map fun p => (φ p.1, p.2)
  dat : ∀ x ∈ s.held, t.dat (φ x) = s.dat x
  syn : ∀ x ∈ s.held, t.syn (φ x) = s.syn x
  room : t.room = s.room
  offs : s.off = false
  offt : t.off = false
  fus : s.fuse = 0
  fut : t.fuse = 0
theorem perm_sum {l r : List Int} (h : l.Perm r) : l.sum = r.sum := by
  induction h with
  | nil => rfl
  | cons x _ ih => simp [ih]
  | swap x y l => simp; omega
  | trans _ _ ih1 ih2 => exact ih1.trans ih2
theorem Sim.perm {φ : Nat → Nat} {s t : St} (h : Sim φ s t) (nds : s.held.Nodup) (ndt : t.held.Nodup) : t.held.Perm (s.held.map φ) := by
  rw [List.perm_ext_iff_of_nodup ndt]
  · intro y
    rw [h.held y, List.mem_map]
  · rw [List.Nodup, List.pairwise_map]
    exact List.Pairwise.imp_of_mem (fun {a b} ha hb hab e => hab (h.inj a ha b hb e)) nds
theorem Sim.heldS {φ : Nat → Nat} {s t : St} (h : Sim φ s t) (oks : Ok s) (okt : Ok t) : heldS t = heldS s := by
  unfold V.heldS
  rw [perm_sum ((h.perm oks.nd okt.nd).map _), List.map_map]
  congr 1
  refine List.map_congr_left fun x hx => ?_
  show ((t.dat (φ x)).length : Int) = _
  rw [h.dat x hx]
theorem Sim.view {φ : Nat → Nat} {s t : St} (h : Sim φ s t) (oks : Ok s) : viewS t = viewS s := by
  funext n
  unfold viewS
  rw [h.now n]
  cases hx : s.now n with
  | none => rfl
  | some x => simp [h.dat x (oks.nowH _ _ hx)]
/-- A name moved, on both sides. -/
theorem move_sim {φ : Nat → Nat} {D E : Dir} {hs : List Nat} (hD : ∀ n f, D n = some f → f ∈ hs) (hE : ∀ n, E n = (D n).map φ) (inj : ∀ x ∈ hs, ∀ y ∈ hs, φ x = φ y → x = y) {x : Nat} (hx : x ∈ hs) (n : Nm) : ∀ k, moveD E (φ x) n k = (moveD D x n k).map φ := by
  intro k
  unfold moveD
  by_cases h1 : k = n ∧ n ≠ emptyNm
  · rw [if_pos h1, if_pos h1]; rfl
  · rw [if_neg h1, if_neg h1, hE k]
    cases hk : D k with
    | none => simp
    | some y =>
      by_cases hy : y = x
      · subst hy; simp
      · have : φ y ≠ φ x := fun e => hy (inj y (hD _ _ hk) x hx e)
        simp [hy, this]
theorem Sim.count {φ : Nat → Nat} {s t : St} (h : Sim φ s t) : Sim φ { s with ops := s.ops + 1 } { t with ops := t.ops + 1 } :=
  ⟨h.inj, h.held, h.now, h.last, h.pend, h.dat, h.syn, h.room, h.offs, h.offt, h.fus, h.fut⟩
theorem Sim.move {φ : Nat → Nat} {s t : St} (h : Sim φ s t) (hn : ∀ n f, s.now n = some f → f ∈ s.held) {x : Nat} (hx : x ∈ s.held) (n : Nm) : Sim φ (pendS s x n).1 (pendS t (φ x) n).1 ∧ (pendS t (φ x) n).2 = (pendS s x n).2 := by
  unfold pendS
  rw [count0 (by exact h.fus), count0 (by exact h.fut)]
  refine ⟨⟨h.inj, h.held, move_sim hn h.now h.inj hx n, h.last, ?_, h.dat, h.syn, h.room, h.offs, h.offt, h.fus, h.fut⟩, rfl⟩
  show t.pend ++ [(φ x, n)] = (s.pend ++ [(x, n)]).map _
  rw [List.map_append, h.pend]; rfl
theorem does_sim {φ : Nat → Nat} {s t : St} (h : Sim φ s t) (oks : Ok s) (okt : Ok t) (u : Stp) {x y : Nat} (hx : x ∉ s.held) (hy : y ∉ t.held) : ∃ φ', Sim φ' (doesS s u x).1 (doesS t u y).1 ∧ (doesS t u y).2 = (doesS s u x).2 := by
  have n1 := nameS_nm u.i
  have n2 := nameS_nm u.k
  have hb : beginS s [nameS u.i] = 0 := by rw [begin_nm (by simpa using n1), h.offs]; rfl
  have hb' : beginS t [nameS u.i] = 0 := by rw [begin_nm (by simpa using n1), h.offt]; rfl
  have hb2 : beginS s [nameS u.i, nameS u.k] = 0 := by rw [begin_nm (by simp [n1, n2]), h.offs]; rfl
  have hb2' : beginS t [nameS u.i, nameS u.k] = 0 := by rw [begin_nm (by simp [n1, n2]), h.offt]; rfl
  have fs := find_on h.offs n1
  have ft := find_on h.offt n1
  rw [h.now] at ft
  unfold doesS
  by_cases h1 : u.kind = 1
  · rw [if_pos h1, if_pos h1]
    have cs : createS s (nameS u.i) x = if s.now (nameS u.i) ≠ none then (s, 83) else pendS (addS s x) x (nameS u.i) := by unfold createS; rw [if_neg (by rw [hb]; simp)]
    have ct : createS t (nameS u.i) y = if t.now (nameS u.i) ≠ none then (t, 83) else pendS (addS t y) y (nameS u.i) := by unfold createS; rw [if_neg (by rw [hb']; simp)]
    rw [cs, ct, h.now]
    cases hz : s.now (nameS u.i) with
    | some z => rw [if_pos (by simp), if_pos (by simp)]; exact ⟨φ, h, rfl⟩
    | none =>
      rw [if_neg (by simp), if_neg (by simp)]
      have hne : ∀ z ∈ s.held, z ≠ x := fun z hz e => hx (e ▸ hz)
      have hφ : ∀ z ∈ s.held, setF φ x y z = φ z := fun z hz => if_neg (hne z hz)
      have hφx : setF φ x y x = y := if_pos rfl
      have hsim : Sim (setF φ x y) (addS s x) (addS t y) := by
        refine ⟨fun a ha b hb2 e => ?_, fun w => ?_, fun n => ?_, fun n => ?_, ?_, fun a ha => ?_, fun a ha => ?_, h.room, h.offs, h.offt, h.fus, h.fut⟩
        · rcases List.mem_append.1 ha with ha' | ha' <;> rcases List.mem_append.1 hb2 with hb' | hb'
          · rw [hφ a ha', hφ b hb'] at e; exact h.inj a ha' b hb' e
          · simp only [List.mem_singleton] at hb'
            subst hb'
            rw [hφ a ha', hφx] at e
            exact absurd ((h.held y).2 ⟨a, ha', e⟩) hy
          · simp only [List.mem_singleton] at ha'
            subst ha'
            rw [hφ b hb', hφx] at e
            exact absurd ((h.held y).2 ⟨b, hb', e.symm⟩) hy
          · simp only [List.mem_singleton] at ha' hb'; rw [ha', hb']
        · show w ∈ t.held ++ [y] ↔ ∃ z ∈ s.held ++ [x], setF φ x y z = w
          rw [List.mem_append, List.mem_singleton, h.held w]
          constructor
          · rintro (⟨z, hz, e⟩ | rfl)
            · exact ⟨z, List.mem_append_left _ hz, by rw [hφ z hz, e]⟩
            · exact ⟨x, by simp, hφx⟩
          · rintro ⟨z, hz, e⟩
            rcases List.mem_append.1 hz with hz | hz
            · exact .inl ⟨z, hz, by rw [← hφ z hz, e]⟩
            · simp only [List.mem_singleton] at hz; subst hz; exact .inr (by rw [← e, hφx])
        · show t.now n = (s.now n).map _
          rw [h.now n]
          cases hz : s.now n with
          | none => rfl
          | some z => simp [hφ z (oks.nowH _ _ hz)]
        · show t.last n = (s.last n).map _
          rw [h.last n]
          cases hz : s.last n with
          | none => rfl
          | some z => simp [hφ z (oks.lastH _ _ hz)]
        · show t.pend = s.pend.map _
          rw [h.pend]
          refine List.map_congr_left fun p hp => ?_
          rw [hφ p.1 (oks.pendH p hp)]
        · show setF t.dat y [] (setF φ x y a) = setF s.dat x [] a
          rcases List.mem_append.1 ha with ha' | ha'
          · rw [hφ a ha']
            have : φ a ≠ y := fun e => hy ((h.held y).2 ⟨a, ha', e⟩)
            unfold setF
            rw [if_neg this, if_neg (hne a ha'), h.dat a ha']
          · simp only [List.mem_singleton] at ha'; subst ha'
            rw [hφx]; simp [setF]
        · show setF t.syn y 0 (setF φ x y a) = setF s.syn x 0 a
          rcases List.mem_append.1 ha with ha' | ha'
          · rw [hφ a ha']
            have : φ a ≠ y := fun e => hy ((h.held y).2 ⟨a, ha', e⟩)
            unfold setF
            rw [if_neg this, if_neg (hne a ha'), h.syn a ha']
          · simp only [List.mem_singleton] at ha'; subst ha'
            rw [hφx]; simp [setF]
      have := hsim.move (fun n f hf => List.mem_append_left _ (oks.nowH n f hf)) (x := x) (by simp [addS]) (nameS u.i)
      rw [hφx] at this
      exact ⟨_, this.1, this.2⟩
  rw [if_neg h1, if_neg h1]
  by_cases h2 : u.kind = 2
  · rw [if_pos h2, if_pos h2]
    unfold appendS
    rw [fs, ft]
    cases hz : s.now (nameS u.i) with
    | none => exact ⟨φ, h, rfl⟩
    | some z =>
      have hzh := oks.nowH _ _ hz
      simp only [Option.map_some]
      have er : t.room - V.heldS t = s.room - V.heldS s := by rw [h.heldS oks okt, h.room]
      by_cases hr : s.room - V.heldS s < (bytS u).length
      · rw [if_pos hr, if_pos (by rw [er]; exact hr)]; exact ⟨φ, h, rfl⟩
      · rw [if_neg hr, if_neg (by rw [er]; exact hr), count0 (by exact h.fus), count0 (by exact h.fut)]
        refine ⟨φ, ⟨h.inj, h.held, h.now, h.last, h.pend, fun a ha => ?_, h.syn, h.room, h.offs, h.offt, h.fus, h.fut⟩, rfl⟩
        show setF t.dat (φ z) (t.dat (φ z) ++ bytS u) (φ a) = setF s.dat z (s.dat z ++ bytS u) a
        unfold setF
        by_cases e : a = z
        · subst e; rw [if_pos rfl, if_pos rfl, h.dat a hzh]
        · rw [if_neg (fun e2 => e (h.inj a ha z hzh e2)), if_neg e, h.dat a ha]
  rw [if_neg h2, if_neg h2]
  by_cases h3 : u.kind = 3
  · rw [if_pos h3, if_pos h3]
    unfold syncS
    rw [fs, ft]
    cases hz : s.now (nameS u.i) with
    | none => exact ⟨φ, h, rfl⟩
    | some z =>
      have hzh := oks.nowH _ _ hz
      simp only [Option.map_some]
      rw [count0 h.fus, count0 h.fut, if_pos rfl, if_pos rfl]
      refine ⟨φ, ⟨h.inj, h.held, h.now, h.last, h.pend, h.dat, fun a ha => ?_, h.room, h.offs, h.offt, h.fus, h.fut⟩, rfl⟩
      show setF t.syn (φ z) (t.dat (φ z)).length (φ a) = setF s.syn z (s.dat z).length a
      unfold setF
      by_cases e : a = z
      · subst e; rw [if_pos rfl, if_pos rfl, h.dat a hzh]
      · rw [if_neg (fun e2 => e (h.inj a ha z hzh e2)), if_neg e, h.syn a ha]
  rw [if_neg h3, if_neg h3]
  by_cases h4 : u.kind = 4
  · rw [if_pos h4, if_pos h4]
    have cs : renameS s (nameS u.i) (nameS u.k) = match s.now (nameS u.i) with | none => (s, 82) | some x => pendS s x (nameS u.k) := by unfold renameS; rw [if_neg (by rw [hb2]; simp)]; cases s.now (nameS u.i) <;> rfl
    have ct : renameS t (nameS u.i) (nameS u.k) = match t.now (nameS u.i) with | none => (t, 82) | some x => pendS t x (nameS u.k) := by unfold renameS; rw [if_neg (by rw [hb2']; simp)]; cases t.now (nameS u.i) <;> rfl
    rw [cs, ct, h.now]
    cases hz : s.now (nameS u.i) with
    | none => exact ⟨φ, h, rfl⟩
    | some z =>
      obtain ⟨a, b⟩ := h.move oks.nowH (oks.nowH _ _ hz) (nameS u.k)
      exact ⟨φ, a, b⟩
  rw [if_neg h4, if_neg h4]
  by_cases h5 : u.kind = 5
  · rw [if_pos h5, if_pos h5]
    unfold removeS
    rw [fs, ft]
    cases hz : s.now (nameS u.i) with
    | none => exact ⟨φ, h, rfl⟩
    | some z =>
      obtain ⟨a, b⟩ := h.move oks.nowH (oks.nowH _ _ hz) emptyNm
      exact ⟨φ, a, b⟩
  rw [if_neg h5, if_neg h5]
  by_cases h6 : u.kind = 6
  · rw [if_pos h6, if_pos h6]
    have cs : syncDirS s = (settleS { s with ops := s.ops + 1 }, 0) := by unfold syncDirS; rw [if_neg (by simp [h.offs]), count0 h.fus, if_pos rfl]
    have ct : syncDirS t = (settleS { t with ops := t.ops + 1 }, 0) := by unfold syncDirS; rw [if_neg (by simp [h.offt]), count0 h.fut, if_pos rfl]
    rw [cs, ct]
    refine ⟨φ, ⟨fun a ha b hb e => h.inj a (List.mem_filter.1 ha).1 b (List.mem_filter.1 hb).1 e, fun w => ?_, h.now, h.now, rfl, fun a ha => h.dat a (List.mem_filter.1 ha).1, fun a ha => h.syn a (List.mem_filter.1 ha).1, h.room, h.offs, h.offt, h.fus, h.fut⟩, rfl⟩
    unfold settleS
    simp only [List.mem_filter, decide_eq_true_eq]
    rw [h.held w]
    constructor
    · rintro ⟨⟨z, hz, e⟩, n, hn⟩
      rw [h.now n] at hn
      obtain ⟨z', hz', e'⟩ := Option.map_eq_some_iff.1 hn
      have : z' = z := h.inj z' (oks.nowH _ _ hz') z hz (by rw [e', e])
      subst this
      exact ⟨z', ⟨hz, n, hz'⟩, e⟩
    · rintro ⟨z, ⟨hz, n, hn⟩, e⟩
      exact ⟨⟨z, hz, e⟩, n, by rw [h.now n, hn, ← e]; rfl⟩
  · rw [if_neg h6, if_neg h6]; exact ⟨φ, h, rfl⟩
end Go.V
