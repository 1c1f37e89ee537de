/- What was synced, and whose name was, is safe. -/
import Derived.Test.YtmkheogjnlmkdaaVFlS
set_option linter.unusedSimpArgs false
set_option linter.unusedVariables false
set_option maxRecDepth 20000
namespace Go.V
open Go
structure SafeF (V0 : Nm → Option (List Int)) (s : St) : Prop where
  sub : ∀ n x, s.last n = some x → s.now n = some x
  old : ∀ n d, V0 n = some d → ∃ x, s.last n = some x ∧ d <+: s.dat x ∧ d.length ≤ s.syn x
  pend : ∀ p ∈ s.pend, s.now p.2 = some p.1 ∧ p.2 ≠ emptyNm
theorem safe_of {V0 : Nm → Option (List Int)} {s t : St} (h : SafeF V0 s) (h1 : t.last = s.last) (h2 : t.now = s.now) (h3 : t.dat = s.dat) (h4 : t.syn = s.syn) (h5 : t.pend = s.pend) : SafeF V0 t :=
  ⟨by rw [h1, h2]; exact h.sub, by rw [h1, h3, h4]; exact h.old, by rw [h5, h2]; exact h.pend⟩
theorem safe_count {V0 : Nm → Option (List Int)} {s : St} (h : SafeF V0 s) : SafeF V0 (countS s).1 := by
  obtain ⟨_, _, _, d, e, a, b, c⟩ := count_ops s
  exact safe_of h b a d e c
theorem does_safe {V0 : Nm → Option (List Int)} {s : St} (ok : Ok s) (h : SafeF V0 s) {t : Stp} (h4 : t.kind ≠ 4) (h5 : t.kind ≠ 5) {x : Nat} (hx : x ∉ s.held) : SafeF V0 (doesS s t x).1 := by
  have w := does_went s t x
  generalize doesS s t x = r at w
  cases w with
  | no e _ _ => exact h
  | create hk _ hn =>
    unfold pendS
    refine safe_count ⟨fun k y hy => ?_, fun k d hd => ?_, fun p hp => ?_⟩
    · have hy2 := h.sub k y hy
      show moveD s.now x (nameS t.i) k = some y
      unfold moveD
      have hne : k ≠ nameS t.i := fun e => by rw [e, hn] at hy2; cases hy2
      rw [if_neg (fun e => hne e.1), if_neg (fun e => hx (ok.nowH _ _ e)), hy2]
    · obtain ⟨y, h1, h2, h3⟩ := h.old k d hd
      have hne : y ≠ x := fun e => hx (e ▸ ok.lastH _ _ h1)
      refine ⟨y, h1, ?_, ?_⟩
      · show d <+: setF s.dat x [] y
        unfold setF; rw [if_neg hne]; exact h2
      · show d.length ≤ setF s.syn x 0 y
        unfold setF; rw [if_neg hne]; exact h3
    · have hp : p ∈ s.pend ++ [(x, nameS t.i)] := hp
      show moveD s.now x (nameS t.i) p.2 = some p.1 ∧ _
      unfold moveD
      rcases List.mem_append.1 hp with hp | hp
      · obtain ⟨a, b⟩ := h.pend p hp
        have hne : p.2 ≠ nameS t.i := fun e => by rw [e, hn] at a; cases a
        rw [if_neg (fun e => hne e.1), if_neg (fun e => hx (ok.nowH _ _ e))]
        exact ⟨a, b⟩
      · simp only [List.mem_singleton] at hp
        subst hp
        exact ⟨if_pos ⟨rfl, nm_ne (nameS_nm _)⟩, nm_ne (nameS_nm _)⟩
  | append hk _ y hn hr =>
    refine safe_count ⟨h.sub, fun k d hd => ?_, h.pend⟩
    obtain ⟨z, h1, h2, h3⟩ := h.old k d hd
    refine ⟨z, h1, ?_, h3⟩
    show d <+: setF s.dat y (s.dat y ++ bytS t) z
    unfold setF
    split
    · rename_i e; rw [← e]; exact h2.trans (List.prefix_append _ _)
    · exact h2
  | sync hk _ y hn =>
    split
    · obtain ⟨_, _, _, d1, e1, a, b, c⟩ := count_ops s
      refine ⟨by show ∀ n x, (countS s).1.last n = some x → (countS s).1.now n = some x; rw [a, b]; exact h.sub, fun k d hd => ?_, by show ∀ p ∈ (countS s).1.pend, (countS s).1.now p.2 = some p.1 ∧ p.2 ≠ emptyNm; rw [a, c]; exact h.pend⟩
      obtain ⟨z, h1, h2, h3⟩ := h.old k d hd
      refine ⟨z, by show (countS s).1.last k = some z; rw [b]; exact h1, by show d <+: (countS s).1.dat z; rw [d1]; exact h2, ?_⟩
      show d.length ≤ setF s.syn y (s.dat y).length z
      unfold setF
      split
      · rename_i e; rw [← e]; exact h2.length_le
      · exact h3
    · exact safe_count h
  | rename hk _ y hn => exact absurd hk h4
  | remove hk _ y hn => exact absurd hk h5
  | syncdir hk _ =>
    split
    · have h' := safe_count h
      refine ⟨fun k y hy => hy, fun k d hd => ?_, fun p hp => by simp [settleS] at hp⟩
      obtain ⟨z, h1, h2, h3⟩ := h'.old k d hd
      exact ⟨z, h'.sub k z h1, h2, h3⟩
    · exact safe_count h
/-- Any of those that pend: nothing named goes, nothing new comes. -/
theorem after_between {now : Dir} (hI : ∀ n m f, now n = some f → now m = some f → n = m) {dir : Int} : ∀ (l : List (Nat × Nm)) (i : Nat) (D last : Dir), (∀ p ∈ l, now p.2 = some p.1 ∧ p.2 ≠ emptyNm) → (∀ n x, last n = some x → D n = some x) → (∀ n x, D n = some x → now n = some x) →
    (∀ n x, last n = some x → afterD D dir l i n = some x) ∧ ∀ n x, afterD D dir l i n = some x → now n = some x
  | [], i, D, last, _, h1, h2 => ⟨h1, h2⟩
  | p :: l, i, D, last, hp, h1, h2 => by
    obtain ⟨a, b⟩ := hp p List.mem_cons_self
    show (∀ n x, last n = some x → afterD _ dir l (i + 1) n = some x) ∧ ∀ n x, afterD _ dir l (i + 1) n = some x → now n = some x
    refine after_between hI l (i + 1) _ last (fun q hq => hp q (List.mem_cons_of_mem _ hq)) ?_ ?_
    · intro n x hn
      split
      · unfold moveD
        by_cases e : n = p.2
        · rw [if_pos ⟨e, b⟩]
          have := h2 n x (h1 n x hn)
          rw [e, a] at this
          exact this
        · rw [if_neg (fun h => e h.1), if_neg, h1 n x hn]
          intro h
          exact e (hI _ _ _ (h2 _ _ h) a)
      · exact h1 n x hn
    · intro n x
      split
      · unfold moveD
        by_cases e : n = p.2
        · rw [if_pos ⟨e, b⟩]; intro h; rw [e, a]; exact h
        · rw [if_neg (fun h => e h.1)]
          split
          · intro h; cases h
          · exact h2 n x
      · exact h2 n x
theorem cuts_pre (cuts : List Int) (x : Nat) : ∀ (ns : List Nm) (j : Nat) (s : St), s.syn x ≤ (s.dat x).length → (cutsS cuts s ns j).dat x <+: s.dat x ∧ s.syn x ≤ ((cutsS cuts s ns j).dat x).length
  | [], j, s, h => ⟨List.prefix_refl _, h⟩
  | n :: ns, j, s, h => by
    unfold cutsS
    cases hn : s.now n with
    | none => exact cuts_pre cuts x ns (j + 1) s h
    | some y =>
      by_cases e : x = y
      · subst e
        have hd : (cutS s x (moreI cuts j)).dat x = (s.dat x).take (cutLen s x (moreI cuts j)) := by simp [cutS, setF]
        have hs : (cutS s x (moreI cuts j)).syn x = cutLen s x (moreI cuts j) := by simp [cutS, setF]
        have hl : cutLen s x (moreI cuts j) ≤ (s.dat x).length := by unfold cutLen; omega
        obtain ⟨a, b⟩ := cuts_pre cuts x ns (j + 1) (cutS s x (moreI cuts j)) (by rw [hd, hs, List.length_take]; omega)
        rw [hs] at b
        rw [hd] at a
        exact ⟨a.trans (List.take_prefix _ _), Nat.le_trans (show s.syn x ≤ cutLen s x (moreI cuts j) by unfold cutLen; omega) b⟩
      · have hd : (cutS s y (moreI cuts j)).dat x = s.dat x := by simp [cutS, setF, e]
        have hs : (cutS s y (moreI cuts j)).syn x = s.syn x := by simp [cutS, setF, e]
        have := cuts_pre cuts x ns (j + 1) (cutS s y (moreI cuts j)) (by rw [hd, hs]; exact h)
        rw [hd, hs] at this
        exact this
theorem crash_safe {V0 : Nm → Option (List Int)} {s : St} (ok : Ok s) (h : SafeF V0 s) (dir : Int) (cuts : List Int) (ns : List Nm) :
    (∀ n d, V0 n = some d → ∃ e c, viewS (crashS s dir cuts ns) n = some e ∧ viewS s n = some c ∧ d <+: e ∧ e <+: c) ∧ ∀ n, viewS (crashS s dir cuts ns) n ≠ none → viewS s n ≠ none := by
  obtain ⟨k1, k2⟩ := after_between ok.nowI (dir := dir) s.pend 0 s.last s.last h.pend (fun _ _ h => h) h.sub
  have hn := (crash_ops s dir cuts ns).2.2.2.2.2.1
  refine ⟨fun n d hd => ?_, fun n hv => ?_⟩
  · obtain ⟨x, h1, h2, h3⟩ := h.old n d hd
    obtain ⟨a, b⟩ := cuts_pre cuts x ns 0 { s with now := afterD s.last dir s.pend 0 } (ok.syn x (ok.lastH _ _ h1))
    refine ⟨(crashS s dir cuts ns).dat x, s.dat x, ?_, ?_, ?_, a⟩
    · unfold viewS; rw [hn, k1 n x h1]; rfl
    · unfold viewS; rw [h.sub n x h1]; rfl
    · exact List.prefix_of_prefix_length_le h2 a (Nat.le_trans h3 b)
  · unfold viewS at *
    rw [hn] at hv
    cases hx : afterD s.last dir s.pend 0 n with
    | none => rw [hx] at hv; exact absurd rfl hv
    | some x => rw [k2 n x hx]; simp
theorem plainV_idle {V : Nm → Option (List Int)} {t : Stp} (h : 3 ≤ t.kind) (h4 : t.kind ≠ 4) (h5 : t.kind ≠ 5) : plainV V t = V := by
  unfold plainV
  rw [if_neg (by omega), if_neg (by omega), if_neg h4, if_neg h5]
end Go.V
