/- What a step leaves as it was. -/
import Derived.Test.YtmkheogjnlmkdaaVFlP
set_option linter.unusedSimpArgs false
set_option linter.unusedVariables false
set_option maxRecDepth 20000
namespace Go.V
open Go
theorem count0 {s : St} (hf : s.fuse = 0) : countS s = ({ s with ops := s.ops + 1 }, 0) := by
  unfold countS; rw [if_neg (by omega)]
theorem count_ops (s : St) : (countS s).1.ops = s.ops + 1 ∧ (countS s).1.room = s.room ∧ (countS s).1.held = s.held ∧ (countS s).1.dat = s.dat ∧ (countS s).1.syn = s.syn ∧ (countS s).1.now = s.now ∧ (countS s).1.last = s.last ∧ (countS s).1.pend = s.pend := by
  unfold countS; split
  · split <;> exact ⟨rfl, rfl, rfl, rfl, rfl, rfl, rfl, rfl⟩
  · exact ⟨rfl, rfl, rfl, rfl, rfl, rfl, rfl, rfl⟩
/-- The ways a step goes: refused, or one of six. -/
inductive Went (s : St) (t : Stp) (x : Nat) : St × Int → Prop
  | no (e : Int) (h : e ≠ 81 ∨ s.off = true) (hk : e ≠ 0 ∨ t.kind < 1 ∨ 6 < t.kind) : Went s t x (s, e)
  | create (h : t.kind = 1) (h0 : s.off = false) (hn : s.now (nameS t.i) = none) : Went s t x (pendS (addS s x) x (nameS t.i))
  | append (h : t.kind = 2) (h0 : s.off = false) (y : Nat) (hn : s.now (nameS t.i) = some y) (hr : ¬ s.room - heldS s < (bytS t).length) : Went s t x (countS { s with dat := setF s.dat y (s.dat y ++ bytS t) })
  | sync (h : t.kind = 3) (h0 : s.off = false) (y : Nat) (hn : s.now (nameS t.i) = some y) : Went s t x (if (countS s).2 = 0 then ({ (countS s).1 with syn := setF s.syn y (s.dat y).length }, 0) else countS s)
  | rename (h : t.kind = 4) (h0 : s.off = false) (y : Nat) (hn : s.now (nameS t.i) = some y) : Went s t x (pendS s y (nameS t.k))
  | remove (h : t.kind = 5) (h0 : s.off = false) (y : Nat) (hn : s.now (nameS t.i) = some y) : Went s t x (pendS s y emptyNm)
  | syncdir (h : t.kind = 6) (h0 : s.off = false) : Went s t x (if (countS s).2 = 0 then (settleS (countS s).1, 0) else countS s)
/-- With the power off. -/
theorem does_dark {s : St} (ho : s.off = true) (t : Stp) (x : Nat) : doesS s t x = (s, 81) ∨ ((t.kind < 1 ∨ 6 < t.kind) ∧ doesS s t x = (s, 0)) := by
  have n1 := nameS_nm t.i
  have n2 := nameS_nm t.k
  have hb : beginS s [nameS t.i] = 81 := by rw [begin_nm (by simpa using n1), ho]; rfl
  have hb2 : beginS s [nameS t.i, nameS t.k] = 81 := by rw [begin_nm (by simp [n1, n2]), ho]; rfl
  have hfd : findS s (nameS t.i) = (none, 81) := by unfold findS; rw [if_pos (by rw [hb]; simp), hb]
  unfold doesS
  by_cases h1 : t.kind = 1
  · left; rw [if_pos h1]; unfold createS; rw [if_pos (by rw [hb]; simp), hb]
  rw [if_neg h1]
  by_cases h2 : t.kind = 2
  · left; rw [if_pos h2]; unfold appendS; rw [hfd]
  rw [if_neg h2]
  by_cases h3 : t.kind = 3
  · left; rw [if_pos h3]; unfold syncS; rw [hfd]
  rw [if_neg h3]
  by_cases h4 : t.kind = 4
  · left; rw [if_pos h4]; unfold renameS; rw [if_pos (by rw [hb2]; simp), hb2]
  rw [if_neg h4]
  by_cases h5 : t.kind = 5
  · left; rw [if_pos h5]; unfold removeS; rw [hfd]
  rw [if_neg h5]
  by_cases h6 : t.kind = 6
  · left; rw [if_pos h6]; unfold syncDirS; rw [if_pos ho]
  rw [if_neg h6]
  exact .inr ⟨by omega, rfl⟩
theorem does_went (s : St) (t : Stp) (x : Nat) : Went s t x (doesS s t x) := by
  have n1 := nameS_nm t.i
  have n2 := nameS_nm t.k
  cases ho : s.off with
  | true =>
    have key := does_dark ho t x
    rcases key with key | ⟨hk, key⟩
    · rw [key]; exact .no _ (.inr ho) (.inl (by decide))
    · rw [key]; exact .no _ (.inr ho) (.inr hk)
  | false =>
    have hb : beginS s [nameS t.i] = 0 := by rw [begin_nm (by simpa using n1), ho]; rfl
    have hb2 : beginS s [nameS t.i, nameS t.k] = 0 := by rw [begin_nm (by simp [n1, n2]), ho]; rfl
    have hfd := find_on ho n1
    unfold doesS
    by_cases h1 : t.kind = 1
    · rw [if_pos h1]
      unfold createS
      rw [if_neg (by rw [hb]; simp)]
      cases hy : s.now (nameS t.i) with
      | some y => rw [if_pos (by simp)]; exact .no 83 (.inl (by decide)) (.inl (by decide))
      | none => rw [if_neg (by simp)]; exact .create h1 ho hy
    rw [if_neg h1]
    by_cases h2 : t.kind = 2
    · rw [if_pos h2]
      unfold appendS
      rw [hfd]
      cases hy : s.now (nameS t.i) with
      | none => exact .no _ (.inl (by decide)) (.inl (by decide))
      | some y =>
        simp only
        by_cases hr : s.room - heldS s < (bytS t).length
        · rw [if_pos hr]; exact .no _ (.inl (by decide)) (.inl (by decide))
        · rw [if_neg hr]; exact .append h2 ho y hy hr
    rw [if_neg h2]
    by_cases h3 : t.kind = 3
    · rw [if_pos h3]
      unfold syncS
      rw [hfd]
      cases hy : s.now (nameS t.i) with
      | none => exact .no _ (.inl (by decide)) (.inl (by decide))
      | some y => exact .sync h3 ho y hy
    rw [if_neg h3]
    by_cases h4 : t.kind = 4
    · rw [if_pos h4]
      unfold renameS
      rw [if_neg (by rw [hb2]; simp)]
      cases hy : s.now (nameS t.i) with
      | none => exact .no _ (.inl (by decide)) (.inl (by decide))
      | some y => exact .rename h4 ho y hy
    rw [if_neg h4]
    by_cases h5 : t.kind = 5
    · rw [if_pos h5]
      unfold removeS
      rw [hfd]
      cases hy : s.now (nameS t.i) with
      | none => exact .no _ (.inl (by decide)) (.inl (by decide))
      | some y => exact .remove h5 ho y hy
    rw [if_neg h5]
    by_cases h6 : t.kind = 6
    · rw [if_pos h6]
      unfold syncDirS
      rw [if_neg (by simp [ho])]
      exact .syncdir h6 ho
    · rw [if_neg h6]; exact .no _ (.inl (by decide)) (.inr (by omega))
theorem does_ok {s : St} (ok : Ok s) (t : Stp) {x : Nat} (hx : x ∉ s.held) : Ok (doesS s t x).1 := by
  unfold doesS
  split
  · exact create_ok ok _ hx
  split
  · exact append_ok ok _ (bytS_byt t)
  split
  · exact sync_ok ok _
  split
  · exact rename_ok ok _ _
  split
  · exact remove_ok ok _
  split
  · exact syncDir_ok ok
  · exact ok
theorem does_ops (s : St) (t : Stp) (x : Nat) : (doesS s t x).1.room = s.room ∧ s.ops ≤ (doesS s t x).1.ops ∧ (doesS s t x).1.ops ≤ s.ops + 1 := by
  have w := does_went s t x
  generalize doesS s t x = r at w
  cases w with
  | no e h hk => exact ⟨rfl, Int.le_refl _, by show s.ops ≤ s.ops + 1; omega⟩
  | create h h0 hn => unfold pendS; obtain ⟨a, b, _⟩ := count_ops { addS s x with now := moveD (addS s x).now x (nameS t.i), pend := (addS s x).pend ++ [(x, nameS t.i)] }; rw [a, b]; exact ⟨rfl, by show s.ops ≤ s.ops + 1; omega, Int.le_refl _⟩
  | append h h0 y hn hr => obtain ⟨a, b, _⟩ := count_ops { s with dat := setF s.dat y (s.dat y ++ bytS t) }; rw [a, b]; exact ⟨rfl, by show s.ops ≤ s.ops + 1; omega, Int.le_refl _⟩
  | sync h h0 y hn =>
    obtain ⟨a, b, _⟩ := count_ops s
    split
    · show (countS s).1.room = _ ∧ _ ≤ (countS s).1.ops ∧ (countS s).1.ops ≤ _
      rw [a, b]; exact ⟨rfl, by omega, by omega⟩
    · rw [a, b]; exact ⟨rfl, by omega, by omega⟩
  | rename h h0 y hn => unfold pendS; obtain ⟨a, b, _⟩ := count_ops { s with now := moveD s.now y (nameS t.k), pend := s.pend ++ [(y, nameS t.k)] }; rw [a, b]; exact ⟨rfl, by show s.ops ≤ s.ops + 1; omega, Int.le_refl _⟩
  | remove h h0 y hn => unfold pendS; obtain ⟨a, b, _⟩ := count_ops { s with now := moveD s.now y emptyNm, pend := s.pend ++ [(y, emptyNm)] }; rw [a, b]; exact ⟨rfl, by show s.ops ≤ s.ops + 1; omega, Int.le_refl _⟩
  | syncdir h h0 =>
    obtain ⟨a, b, _⟩ := count_ops s
    split
    · show (countS s).1.room = _ ∧ _ ≤ (countS s).1.ops ∧ (countS s).1.ops ≤ _
      rw [a, b]; exact ⟨rfl, by omega, by omega⟩
    · rw [a, b]; exact ⟨rfl, by omega, by omega⟩
/-- Not armed: the power stays on. -/
theorem does_on {s : St} (hf : s.fuse = 0) (ho : s.off = false) (t : Stp) (x : Nat) : (doesS s t x).1.fuse = 0 ∧ (doesS s t x).1.off = false ∧ (doesS s t x).2 ≠ 81 := by
  have w := does_went s t x
  generalize doesS s t x = r at w
  cases w with
  | no e h hk =>
    refine ⟨hf, ho, ?_⟩
    rcases h with h | h
    · exact h
    · rw [ho] at h; cases h
  | create h h0 hn => unfold pendS; rw [count0 (by exact hf)]; exact ⟨hf, ho, fun e => absurd (show (0 : Int) = 81 from e) (by decide)⟩
  | append h h0 y hn hr => rw [count0 (by exact hf)]; exact ⟨hf, ho, fun e => absurd (show (0 : Int) = 81 from e) (by decide)⟩
  | sync h h0 y hn => rw [count0 hf, if_pos rfl]; exact ⟨hf, ho, fun e => absurd (show (0 : Int) = 81 from e) (by decide)⟩
  | rename h h0 y hn => unfold pendS; rw [count0 (by exact hf)]; exact ⟨hf, ho, fun e => absurd (show (0 : Int) = 81 from e) (by decide)⟩
  | remove h h0 y hn => unfold pendS; rw [count0 (by exact hf)]; exact ⟨hf, ho, fun e => absurd (show (0 : Int) = 81 from e) (by decide)⟩
  | syncdir h h0 => rw [count0 hf, if_pos rfl]; exact ⟨hf, ho, fun e => absurd (show (0 : Int) = 81 from e) (by decide)⟩
theorem held_add {s : St} {x : Nat} (hx : x ∉ s.held) : heldS (addS s x) = heldS s := by
  unfold heldS addS
  simp only [List.map_append, List.sum_append, List.map_cons, List.map_nil, List.sum_cons, List.sum_nil]
  have : s.held.map (fun f => ((setF s.dat x [] f).length : Int)) = s.held.map fun f => ((s.dat f).length : Int) := by
    refine List.map_congr_left fun f hf => ?_
    unfold setF
    rw [if_neg (fun (e : f = x) => hx (e ▸ hf))]
  rw [this]
  simp [setF]
/-- But a SyncDir nothing lets what is held fall. -/
theorem does_held {s : St} (ok : Ok s) (t : Stp) {x : Nat} (hx : x ∉ s.held) (h6 : t.kind ≠ 6) : heldS s ≤ heldS (doesS s t x).1 := by
  have w := does_went s t x
  generalize doesS s t x = r at w
  have cnt : ∀ u : St, heldS (countS u).1 = heldS u := fun u => by
    obtain ⟨_, _, a, b, _⟩ := count_ops u
    unfold heldS; rw [a, b]
  cases w with
  | no e h hk => exact Int.le_refl _
  | create h h0 hn =>
    unfold pendS
    rw [cnt]
    exact Int.le_of_eq (held_add hx).symm
  | append h h0 y hn hr =>
    rw [cnt, sum_set ok (ok.nowH _ _ hn), List.length_append]; omega
  | sync h h0 y hn =>
    split
    · exact Int.le_of_eq (cnt s).symm
    · exact Int.le_of_eq (cnt s).symm
  | rename h h0 y hn => unfold pendS; rw [cnt]; exact Int.le_refl _
  | remove h h0 y hn => unfold pendS; rw [cnt]; exact Int.le_refl _
  | syncdir h h0 => exact absurd h h6
/-- How long a plain list's files grow. -/
theorem plain_len {L : List Flp} {s : Stp} {m : Nat} (hL : ∀ x ∈ L, Byt x.2 ∧ x.2.length ≤ m) : (∀ x ∈ plainS L s, Byt x.2 ∧ x.2.length ≤ m + 50) ∧ (plainS L s).length ≤ L.length + 1 := by
  have up : ∀ x ∈ L, Byt x.2 ∧ x.2.length ≤ m + 50 := fun x hx => ⟨(hL x hx).1, by have := (hL x hx).2; omega⟩
  have dm : ∀ (M : List Flp) (i : Int), (∀ x ∈ M, Byt x.2 ∧ x.2.length ≤ m + 50) → (∀ x ∈ dropL M i, Byt x.2 ∧ x.2.length ≤ m + 50) ∧ (dropL M i).length ≤ M.length := by
    intro M i hM
    unfold dropL
    split
    · refine ⟨fun x hx => hM x (List.mem_of_mem_eraseIdx hx), ?_⟩
      rw [List.length_eraseIdx]; split <;> omega
    · exact ⟨hM, Nat.le_refl _⟩
  unfold plainS
  split
  · cases hasN L (nameS s.i) with
    | none =>
      refine ⟨fun x hx => ?_, by simp⟩
      rcases List.mem_append.1 hx with hx | hx
      · exact up x hx
      · simp only [List.mem_singleton] at hx; subst hx; exact ⟨by simp [Byt], by simp⟩
    | some i => exact ⟨up, Nat.le_succ _⟩
  split
  · cases hasN L (nameS s.i) with
    | none => exact ⟨up, Nat.le_succ _⟩
    | some i =>
      refine ⟨fun x hx => ?_, by simp⟩
      obtain ⟨k, hk, hkx⟩ := List.getElem_of_mem hx
      have h2 : (L.modify i fun x => (x.1, x.2 ++ bytS s))[k]? = some x := by rw [List.getElem?_eq_getElem hk, hkx]
      rw [List.getElem?_modify] at h2
      obtain ⟨y, hy, hyx⟩ := Option.map_eq_some_iff.1 h2
      have hm := List.mem_of_getElem? hy
      have hb := bytS_byt s
      have hl := bytS_le s
      by_cases e : i = k
      · rw [if_pos e] at hyx
        subst hyx
        refine ⟨fun c hc => ?_, ?_⟩
        · rcases List.mem_append.1 hc with hc | hc
          · exact (hL y hm).1 c hc
          · exact hb c hc
        · have := (hL y hm).2; simp; omega
      · rw [if_neg e] at hyx
        subst hyx
        exact up _ hm
  split
  · cases h : hasN L (nameS s.i) with
    | none => exact ⟨up, Nat.le_succ _⟩
    | some i =>
      simp only
      split
      · obtain ⟨a, b⟩ := dm L i up
        obtain ⟨a2, b2⟩ := dm _ (hasS (dropL L i) (nameS s.k)) a
        refine ⟨fun x hx => ?_, ?_⟩
        · rcases List.mem_append.1 hx with hx | hx
          · exact a2 x hx
          · simp only [List.mem_singleton] at hx
            subst hx
            obtain ⟨d, hi, _⟩ := hasN_some h
            rw [List.getD_eq_getElem?_getD, hi]
            exact up (nameS s.i, d) (List.mem_of_getElem? hi)
        · rw [List.length_append]; simp; omega
      · exact ⟨up, by omega⟩
  split
  · obtain ⟨a, b⟩ := dm L (hasS L (nameS s.i)) up
    exact ⟨a, by omega⟩
  · exact ⟨up, by omega⟩
end Go.V
