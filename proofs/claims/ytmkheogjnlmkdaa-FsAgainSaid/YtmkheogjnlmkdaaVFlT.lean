/- Everything kept: the directory that is is the last one behind all that pends. -/
import Derived.Test.YtmkheogjnlmkdaaVFlS
set_option linter.unusedSimpArgs false
set_option linter.unusedVariables false
set_option maxRecDepth 20000
namespace Go.V
open Go
theorem setF_idem {α : Type} (f : Nat → α) (x : Nat) : setF f x (f x) = f := by
  funext y; unfold setF; split
  · rename_i h; rw [h]
  · rfl
theorem nameS_mem (i : Int) : nameS i ∈ names8 := by
  unfold nameS
  have h : (i % 8).toNat < names8.length := by show _ < 8; omega
  rw [List.getD_eq_getElem?_getD, List.getElem?_eq_getElem h]
  exact List.getElem_mem h
theorem bit_all (i : Nat) : bitI (-1) i = true := by
  unfold bitI
  have h : (0 : Int) < 2 ^ (min i 63) := Int.pow_pos (by omega)
  generalize (2 : Int) ^ (min i 63) = p at h
  have : (-1 : Int) / p = -1 := by
    rw [Int.neg_one_ediv, Int.sign_eq_one_of_pos h]
  rw [this]
  decide
theorem after_snoc (dir : Int) (p : Nat × Nm) : ∀ (l : List (Nat × Nm)) (i : Nat) (D : Dir), afterD D dir (l ++ [p]) i = if bitI dir (i + l.length) then moveD (afterD D dir l i) p.1 p.2 else afterD D dir l i
  | [], i, D => by simp [afterD]
  | q :: l, i, D => by
    show afterD _ dir (l ++ [p]) (i + 1) = _
    rw [after_snoc dir p l (i + 1)]
    have : i + 1 + l.length = i + (q :: l).length := by simp; omega
    rw [this]
    rfl
def Whole (s : St) : Prop := s.now = afterD s.last (-1) s.pend 0
theorem whole_count {s : St} : Whole (countS s).1 ↔ Whole s := by
  obtain ⟨_, _, _, _, _, a, b, c⟩ := count_ops s
  unfold Whole
  rw [a, b, c]
theorem whole_pend {s : St} (h : Whole s) (x : Nat) (n : Nm) : Whole (pendS s x n).1 := by
  unfold pendS
  rw [whole_count]
  unfold Whole at *
  show moveD s.now x n = afterD s.last (-1) (s.pend ++ [(x, n)]) 0
  rw [after_snoc, bit_all, if_pos rfl, ← h]
theorem does_whole {s : St} (h : Whole s) (t : Stp) (x : Nat) : Whole (doesS s t x).1 := by
  have w := does_went s t x
  generalize doesS s t x = r at w
  cases w with
  | no e _ _ => exact h
  | create _ _ _ => exact whole_pend (s := addS s x) h x _
  | append _ _ y hn hr => exact whole_count.2 h
  | sync _ _ y hn => split <;> exact whole_count.2 h
  | rename _ _ y hn => exact whole_pend h _ _
  | remove _ _ y hn => exact whole_pend h _ _
  | syncdir _ _ => split
                   · exact rfl
                   · exact whole_count.2 h
theorem plainV_names {V : Nm → Option (List Int)} (h : ∀ n, V n ≠ none → n ∈ names8) (t : Stp) : ∀ n, plainV V t n ≠ none → n ∈ names8 := by
  have up : ∀ (V : Nm → Option (List Int)) (i : Int) d, (∀ n, V n ≠ none → n ∈ names8) → ∀ n, updV V (nameS i) d n ≠ none → n ∈ names8 := by
    intro V i d h n hn
    unfold updV at hn
    by_cases e : n = nameS i
    · rw [e]; exact nameS_mem i
    · rw [if_neg e] at hn; exact h n hn
  unfold plainV
  split
  · cases V (nameS t.i) with
    | none => exact up _ _ _ h
    | some d => exact h
  split
  · cases V (nameS t.i) with
    | none => exact h
    | some d => exact up _ _ _ h
  split
  · cases V (nameS t.i) with
    | none => exact h
    | some d =>
      simp only
      split
      · exact up _ _ _ (up _ _ _ h)
      · exact h
  split
  · exact up _ _ _ h
  · exact h
/-- A cut that takes all. -/
theorem cuts_all (cuts : List Int) : ∀ (ns : List Nm) (j : Nat) (s : St), (∀ n ∈ ns, ∀ x, s.now n = some x → s.syn x ≤ (s.dat x).length ∧ (s.dat x).length ≤ 1099511627776) → (∀ k, k < ns.length → cuts.getD (j + k) 0 = 1099511627776) → (cutsS cuts s ns j).dat = s.dat
  | [], j, s, _, _ => rfl
  | n :: ns, j, s, h, hc => by
    unfold cutsS
    cases hn : s.now n with
    | none =>
      refine cuts_all cuts ns (j + 1) s (fun m hm => h m (List.mem_cons_of_mem _ hm)) fun k hk => ?_
      have := hc (k + 1) (by simp; omega)
      rw [← this]; congr 1; omega
    | some x =>
      obtain ⟨h1, h2⟩ := h n List.mem_cons_self x hn
      have hm : moreI cuts j = 1099511627776 := by
        unfold moreI
        have := hc 0 (by simp)
        rw [Nat.add_zero] at this
        rw [this]; rfl
      have hl : cutLen s x (moreI cuts j) = (s.dat x).length := by unfold cutLen; rw [hm]; omega
      have hd : (cutS s x (moreI cuts j)).dat = s.dat := by
        unfold cutS
        rw [hl, List.take_length]
        exact setF_idem _ _
      refine (cuts_all cuts ns (j + 1) (cutS s x (moreI cuts j)) (fun m hm y hy => ?_) fun k hk => ?_).trans hd
      · rw [hd]
        obtain ⟨a, b⟩ := h m (List.mem_cons_of_mem _ hm) y hy
        refine ⟨?_, b⟩
        unfold cutS setF
        simp only
        split
        · rename_i e; rw [hl, e]; exact Nat.le_refl _
        · exact a
      · have := hc (k + 1) (by simp; omega)
        rw [← this]; congr 1; omega
theorem crash_all {s : St} (ok : Ok s) (hw : Whole s) {cuts : List Int} {ns : List Nm} (hns : IsNames (afterD s.last (-1) s.pend 0) ns) (hc : ∀ k, k < ns.length → cuts.getD k 0 = 1099511627776) : viewS (crashS s (-1) cuts ns) = viewS s := by
  have hd : (crashS s (-1) cuts ns).dat = s.dat := by
    refine cuts_all cuts ns 0 { s with now := afterD s.last (-1) s.pend 0 } (fun n hn x hx => ?_) fun k hk => by rw [Nat.zero_add]; exact hc k hk
    have hx : s.now n = some x := by rw [hw]; exact hx
    have hm := ok.nowH _ _ hx
    have := dat_le ok hm
    have := ok.room
    exact ⟨ok.syn _ hm, by show (s.dat x).length ≤ _; omega⟩
  have hn := (crash_ops s (-1) cuts ns).2.2.2.2.2.1
  unfold viewS
  rw [hd, hn, ← hw]
end Go.V
