/- Plain Lean: a heap of numbers under keys, and the sources that are merged. -/
import Derived.Test.YtcgejfmbhpmjfaaVDedup
set_option linter.unusedSimpArgs false
set_option linter.unusedVariables false
set_option maxRecDepth 20000
namespace Go.Proofs.Ytcgejfmbhpmjfaa
open Go Go.V

theorem nlt_trans {p q r : Pr} (h : ltP q p = false) (k : ltP r q = false) : ltP r p = false := by
  simp only [ltP, decide_eq_false_iff_not] at *; omega
theorem nlt_of {p q : Pr} (h : ltP p q = true) : ltP q p = false := lt_asymm' h

/-! ### A heap -/
section
variable (key : Nat → Pr)
def OkAt (hp : List Nat) (j : Nat) : Prop := ltP (key (hp.getD j 0)) (key (hp.getD ((j - 1) / 2) 0)) = false
def HeapOK (hp : List Nat) : Prop := ∀ j, 0 < j → j < hp.length → OkAt key hp j
/-- .. but at i, upward. -/
def HeapUp (hp : List Nat) (i : Nat) : Prop := (∀ j, 0 < j → j < hp.length → j ≠ i → OkAt key hp j) ∧
  (0 < i → ∀ j, 0 < j → j < hp.length → (j - 1) / 2 = i → ltP (key (hp.getD j 0)) (key (hp.getD ((i - 1) / 2) 0)) = false)
/-- .. but below i. -/
def HeapDown (hp : List Nat) (i : Nat) : Prop := (∀ j, 0 < j → j < hp.length → (j - 1) / 2 ≠ i → OkAt key hp j) ∧
  (0 < i → ∀ j, 0 < j → j < hp.length → (j - 1) / 2 = i → ltP (key (hp.getD j 0)) (key (hp.getD ((i - 1) / 2) 0)) = false)
end
def sw (hp : List Nat) (i j : Nat) : List Nat := (hp.set i (hp.getD j 0)).set j (hp.getD i 0)
section
variable {key : Nat → Pr} {hp : List Nat}
theorem sw_len (hp : List Nat) (i j : Nat) : (sw hp i j).length = hp.length := by simp [sw]
theorem sw_get {i j : Nat} (hi : i < hp.length) (hj : j < hp.length) (k : Nat) : (sw hp i j).getD k 0 = if k = j then hp.getD i 0 else if k = i then hp.getD j 0 else hp.getD k 0 := by
  unfold sw
  rw [List.getD_eq_getElem?_getD, List.getElem?_set, List.getElem?_set]
  by_cases h1 : j = k
  · subst h1
    simp [hj]
  · rw [if_neg h1, if_neg (Ne.symm h1)]
    by_cases h2 : i = k
    · subst h2
      simp [hi]
    · rw [if_neg h2, if_neg (Ne.symm h2), List.getD_eq_getElem?_getD]
theorem sw_perm {i j : Nat} (hi : i < hp.length) (hj : j < hp.length) : (sw hp i j).Perm hp := by
  have := List.set_set_perm hi hj
  unfold sw
  simpa [List.getD_eq_getElem?_getD, List.getElem?_eq_getElem hi, List.getElem?_eq_getElem hj] using this
theorem up_start (h : HeapOK key hp) (x : Nat) : HeapUp key (hp ++ [x]) hp.length := by
  have g : ∀ j, j < hp.length → (hp ++ [x]).getD j 0 = hp.getD j 0 := fun j hj => by
    rw [List.getD_eq_getElem?_getD, List.getElem?_append_left hj, ← List.getD_eq_getElem?_getD]
  refine ⟨fun j h0 hj hne => ?_, fun h0 j hj0 hj hp' => ?_⟩
  · simp at hj
    unfold OkAt
    rw [g j (by omega), g _ (by omega)]
    exact h j h0 (by omega)
  · simp at hj; omega
theorem up_done {i : Nat} (h : HeapUp key hp i) (hc : i = 0 ∨ OkAt key hp i) : HeapOK key hp := by
  intro j h0 hj
  by_cases hji : j = i
  · subst hji
    rcases hc with hc | hc
    · omega
    · exact hc
  · exact h.1 j h0 hj hji
theorem up_step {i : Nat} (h : HeapUp key hp i) (h0 : 0 < i) (hi : i < hp.length) (hl : ltP (key (hp.getD i 0)) (key (hp.getD ((i - 1) / 2) 0)) = true) : HeapUp key (sw hp i ((i - 1) / 2)) ((i - 1) / 2) := by
  have hu : (i - 1) / 2 < hp.length := by omega
  refine ⟨fun j hj0 hj hne => ?_, fun hu0 j hj0 hj hpj => ?_⟩
  · rw [sw_len] at hj
    unfold OkAt
    rw [sw_get hi hu, sw_get hi hu, if_neg hne]
    by_cases hji : j = i
    · subst hji
      rw [if_pos rfl, if_pos rfl]
      exact nlt_of hl
    · rw [if_neg hji]
      by_cases h1 : (j - 1) / 2 = (i - 1) / 2
      · rw [if_pos h1]
        have := h.1 j hj0 hj hji
        unfold OkAt at this
        rw [h1] at this
        exact nlt_trans (nlt_of hl) this
      · rw [if_neg h1]
        by_cases h2 : (j - 1) / 2 = i
        · rw [if_pos h2]
          exact h.2 h0 j hj0 hj h2
        · rw [if_neg h2]
          exact h.1 j hj0 hj hji
  · rw [sw_len] at hj
    have hpar : OkAt key hp ((i - 1) / 2) := h.1 _ hu0 hu (by omega)
    unfold OkAt at hpar
    rw [sw_get hi hu, sw_get hi hu ((((i - 1) / 2) - 1) / 2), if_neg (show j ≠ (i - 1) / 2 by omega), if_neg (show ((i - 1) / 2 - 1) / 2 ≠ (i - 1) / 2 by omega), if_neg (show ((i - 1) / 2 - 1) / 2 ≠ i by omega)]
    by_cases hji : j = i
    · rw [if_pos hji]
      exact hpar
    · rw [if_neg hji]
      have := h.1 j hj0 hj hji
      unfold OkAt at this
      rw [hpj] at this
      exact nlt_trans hpar this
/-- Its top taken off, its last one laid there. -/
def cut1 (hp : List Nat) : List Nat := (hp.set 0 (hp.getD (hp.length - 1) 0)).take (hp.length - 1)
theorem cut1_len (hp : List Nat) : (cut1 hp).length = hp.length - 1 := by simp [cut1]
theorem cut1_get {j : Nat} (h0 : 0 < j) (hj : j < hp.length - 1) : (cut1 hp).getD j 0 = hp.getD j 0 := by
  unfold cut1
  rw [List.getD_eq_getElem?_getD, List.getElem?_take, if_pos hj, List.getElem?_set, if_neg (by omega), ← List.getD_eq_getElem?_getD]
theorem down_start (h : HeapOK key hp) : HeapDown key (cut1 hp) 0 := by
  refine ⟨fun j h0 hj hne => ?_, fun h0 => absurd h0 (by omega)⟩
  rw [cut1_len] at hj
  unfold OkAt
  rw [cut1_get h0 hj, cut1_get (by omega) (by omega)]
  exact h j h0 (by omega)
theorem cut1_perm (h : hp ≠ []) : (hp.getD 0 0 :: cut1 hp).Perm hp := by
  match hp, h with
  | [a], _ => simp [cut1]
  | a :: b :: t, _ =>
    have hl : (b :: t) ≠ [] := by simp
    have e := List.dropLast_concat_getLast hl
    have e2 : cut1 (a :: b :: t) = (b :: t).getLast hl :: (b :: t).dropLast := by
      unfold cut1
      simp only [List.length_cons, Nat.add_sub_cancel, List.set_cons_zero]
      rw [List.take_succ_cons, List.dropLast_eq_take]
      congr 1
      rw [List.getLast_eq_getElem]
      simp [List.getD_eq_getElem?_getD]
    rw [e2]
    show (a :: (b :: t).getLast hl :: (b :: t).dropLast).Perm (a :: b :: t)
    refine List.Perm.cons a ?_
    have : ((b :: t).dropLast ++ [(b :: t).getLast hl]).Perm ((b :: t).getLast hl :: (b :: t).dropLast) := List.perm_append_comm (l₂ := [(b :: t).getLast hl])
    exact (this.symm.trans (by rw [e]))
theorem down_done {i : Nat} (h : HeapDown key hp i) (hc : ∀ j, 0 < j → j < hp.length → (j - 1) / 2 = i → ltP (key (hp.getD j 0)) (key (hp.getD i 0)) = false) : HeapOK key hp := by
  intro j h0 hj
  by_cases hji : (j - 1) / 2 = i
  · unfold OkAt
    rw [hji]
    exact hc j h0 hj hji
  · exact h.1 j h0 hj hji
theorem down_step {i m : Nat} (h : HeapDown key hp i) (hm : m < hp.length) (h0 : 0 < m) (hmi : (m - 1) / 2 = i) (hself : ltP (key (hp.getD i 0)) (key (hp.getD m 0)) = false)
    (hmin : ∀ j, 0 < j → j < hp.length → (j - 1) / 2 = i → ltP (key (hp.getD j 0)) (key (hp.getD m 0)) = false) : HeapDown key (sw hp i m) m := by
  have hi : i < hp.length := by omega
  refine ⟨fun j hj0 hj hne => ?_, fun _ j hj0 hj hpj => ?_⟩
  · rw [sw_len] at hj
    unfold OkAt
    rw [sw_get hi hm, sw_get hi hm, if_neg hne]
    by_cases hjm : j = m
    · subst hjm
      rw [if_pos rfl, if_pos hmi]
      exact hself
    · rw [if_neg hjm]
      by_cases hji : j = i
      · subst hji
        rw [if_pos rfl, if_neg (by omega)]
        exact h.2 hj0 m h0 hm hmi
      · rw [if_neg hji]
        by_cases h1 : (j - 1) / 2 = i
        · rw [if_pos h1]
          exact hmin j hj0 hj h1
        · rw [if_neg h1]
          exact h.1 j hj0 hj h1
  · rw [sw_len] at hj
    rw [hmi, sw_get hi hm, sw_get hi hm i, if_neg (by omega), if_neg (by omega), if_neg (by omega), if_pos rfl]
    have := h.1 j hj0 hj (by omega)
    unfold OkAt at this
    rw [hpj] at this
    exact this
theorem top_min (h : HeapOK key hp) : ∀ j, j < hp.length → ltP (key (hp.getD j 0)) (key (hp.getD 0 0)) = false := by
  intro j
  induction j using Nat.strongRecOn with
  | _ j ih =>
    intro hj
    by_cases h0 : j = 0
    · subst h0; exact lt_irrefl' _
    · exact nlt_trans (ih ((j - 1) / 2) (by omega) (by omega)) (h j (by omega) hj)
end

/-! ### Sources -/
structure Src where
  l : List Pr
  last : Pr
  given : Bool
  ended : Bool
instance : Inhabited Src := ⟨⟨[], (0, 0), false, false⟩⟩
def sg (ss : List Src) (i : Nat) : Src := ss.getD i default
def hd (ss : List Src) (i : Nat) : Pr := (sg ss i).l.getD 0 (0, 0)
theorem sg_set {ss : List Src} {i : Nat} (hi : i < ss.length) (s : Src) (j : Nat) : sg (ss.set i s) j = if j = i then s else sg ss j := by
  unfold sg
  rw [List.getD_eq_getElem?_getD, List.getElem?_set, List.getD_eq_getElem?_getD]
  by_cases h : i = j
  · subst h; simp [hi]
  · rw [if_neg h, if_neg (Ne.symm h)]
def wanting (s : Src) : Bool := decide (s.l.length = 0) && !s.ended
def wantsS (ss : List Src) : Int := match ss.findIdx? wanting with | some i => i | none => -1
def leftS (ss : List Src) : Int := ((ss.map fun s => s.l.length).sum : Nat)
/-- May these be given to s? -/
def fits (s : Src) (l : List Pr) : Bool := riseP l && (decide (l.length = 0) || !s.given || ltP s.last (l.getD 0 (0, 0)))
def gave (s : Src) (l : List Pr) (last : Bool) : Src := ⟨s.l ++ l, if l.length = 0 then s.last else l.getD (l.length - 1) (0, 0), s.given || !decide (l.length = 0), last⟩
def giveS (ss : List Src) (i : Int) (l : List Pr) (last : Bool) : List Src × Int :=
  if i < 0 ∨ (ss.length : Int) ≤ i ∨ (sg ss i.toNat).ended = true then (ss, 112)
  else if fits (sg ss i.toNat) l = false then (ss, 111)
  else (ss.set i.toNat (gave (sg ss i.toNat) l last), 0)
def IsMin (ss : List Src) (p : Pr) : Prop := (∃ s ∈ ss, s.l.head? = some p) ∧ ∀ s ∈ ss, ∀ q, s.l.head? = some q → ltP q p = false
def adv1 (p : Pr) (s : Src) : Src := if s.l.head? = some p then { s with l := s.l.tail } else s
/-- What Next tells, and the sources behind it. -/
def NextR (ss : List Src) (r : Option Pr) (ss' : List Src) : Prop :=
  ((0 ≤ wantsS ss ∨ ∀ s ∈ ss, s.l = []) ∧ r = none ∧ ss' = ss) ∨ (wantsS ss < 0 ∧ ∃ p, IsMin ss p ∧ r = some p ∧ ss' = ss.map (adv1 p))
theorem isMin_unique {ss : List Src} {p q : Pr} (h : IsMin ss p) (k : IsMin ss q) : p = q := by
  obtain ⟨s, hs, h1⟩ := h.1
  obtain ⟨t, ht, h2⟩ := k.1
  exact lt_tri (k.2 s hs p h1) (h.2 t ht q h2)
theorem nextR_unique {ss a b : List Src} {r q : Option Pr} (h : NextR ss r a) (k : NextR ss q b) : r = q ∧ a = b := by
  rcases h with ⟨h1, h2, h3⟩ | ⟨h1, p, h2, h3, h4⟩
  · rcases k with ⟨k1, k2, k3⟩ | ⟨k1, p, k2, k3, k4⟩
    · exact ⟨by rw [h2, k2], by rw [h3, k3]⟩
    · exfalso
      rcases h1 with h1 | h1
      · omega
      · obtain ⟨s, hs, h5⟩ := k2.1
        rw [h1 s hs] at h5; cases h5
  · rcases k with ⟨k1, k2, k3⟩ | ⟨k1, q', k2, k3, k4⟩
    · exfalso
      rcases k1 with k1 | k1
      · omega
      · obtain ⟨s, hs, h5⟩ := h2.1
        rw [k1 s hs] at h5; cases h5
    · have := isMin_unique h2 k2
      subst this
      exact ⟨by rw [h3, k3], by rw [h4, k4]⟩
/-- The sources and the heap's numbers fit each other. -/
structure MS (ss : List Src) (hp : List Nat) : Prop where
  nodup : hp.Nodup
  mem : ∀ i, i ∈ hp ↔ i < ss.length ∧ (sg ss i).l ≠ []
  heap : HeapOK (hd ss) hp
  up : ∀ i, i < ss.length → Up (sg ss i).l
  last : ∀ i, i < ss.length → (sg ss i).l ≠ [] → (sg ss i).given = true ∧ (sg ss i).l.getLast? = some (sg ss i).last
end Go.Proofs.Ytcgejfmbhpmjfaa
