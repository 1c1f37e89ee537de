/- Plain Lean: sources that are given piece by piece make one sequence. -/
import Derived.Test.YtcgejfmbhpmjfaaVTold
import Derived.Test.YtcgejfmbhpmjfaaVHas
set_option linter.unusedSimpArgs false
set_option linter.unusedVariables false
set_option maxRecDepth 20000
namespace Go.Proofs.Ytcgejfmbhpmjfaa
open Go Go.V
theorem td_getD {q : List Pr} {a t i : Nat} (h : a + i < t) : ((q.take t).drop a).getD i (0, 0) = q.getD (a + i) (0, 0) := by
  rw [List.getD_eq_getElem?_getD, List.getElem?_drop, List.getElem?_take, if_pos h, ← List.getD_eq_getElem?_getD]
theorem td_len {q : List Pr} {a t : Nat} (h : t ≤ q.length) : ((q.take t).drop a).length = t - a := by
  rw [List.length_drop, List.length_take, Nat.min_eq_left h]
theorem td_app {q : List Pr} {c a t : Nat} (h1 : c ≤ a) (h2 : a ≤ t) : (q.take a).drop c ++ (q.take t).drop a = (q.take t).drop c := by
  apply List.ext_getElem?
  intro i
  by_cases hi : i < ((q.take a).drop c).length
  · rw [List.getElem?_append_left hi]
    rw [List.length_drop, List.length_take] at hi
    rw [List.getElem?_drop, List.getElem?_drop, List.getElem?_take, List.getElem?_take, if_pos (by omega), if_pos (by omega)]
  · rw [List.getElem?_append_right (by omega)]
    rw [List.length_drop, List.length_take] at *
    by_cases hq : a ≤ q.length
    · rw [Nat.min_eq_left hq] at *
      rw [List.getElem?_drop, List.getElem?_drop, show a + (i - (a - c)) = c + i by omega]
    · rw [Nat.min_eq_right (by omega)] at *
      rw [List.getElem?_drop, List.getElem?_drop, List.getElem?_eq_none (by rw [List.length_take]; omega), List.getElem?_eq_none (by rw [List.length_take]; omega)]
theorem td_up {q : List Pr} (h : Up q) (a t : Nat) : Up ((q.take t).drop a) := by
  unfold Up at *
  exact (h.sublist (List.take_sublist t q)).sublist (List.drop_sublist a _)
theorem sort_mem' (ps : List Pr) (x : Pr) : x ∈ sortP ps ↔ x ∈ ps := (sortP_is ps).2 x
structure OI (qs : List (List Pr)) (ats : List Nat) (ens : List Bool) (ss : List Src) (out : List Pr) (c : Nat → Nat) : Prop where
  l1 : ss.length = qs.length
  l2 : ats.length = qs.length
  l3 : ens.length = qs.length
  ca : ∀ k, k < qs.length → c k ≤ ats.getD k 0 ∧ ats.getD k 0 ≤ (qs.getD k []).length
  lst : ∀ k, k < qs.length → (sg ss k).l = ((qs.getD k []).take (ats.getD k 0)).drop (c k)
  en : ∀ k, k < qs.length → (sg ss k).ended = ens.getD k false ∧ (ens.getD k false = true → ats.getD k 0 = (qs.getD k []).length)
  gv : ∀ k, k < qs.length → (sg ss k).given = true → 0 < ats.getD k 0 ∧ (sg ss k).last = (qs.getD k []).getD (ats.getD k 0 - 1) (0, 0)
  up : Up out
  sub : ∀ x ∈ out, x ∈ qs.flatten
  old : ∀ k, k < qs.length → ∀ j, j < c k → (qs.getD k []).getD j (0, 0) ∈ out
  new : ∀ k, k < qs.length → ∀ j, c k ≤ j → j < (qs.getD k []).length → ∀ p ∈ out, ltP p ((qs.getD k []).getD j (0, 0)) = true
theorem getD_set {α : Type} {l : List α} {k : Nat} (hk : k < l.length) (x d : α) (j : Nat) : (l.set k x).getD j d = if j = k then x else l.getD j d := by
  rw [List.getD_eq_getElem?_getD, List.getElem?_set, List.getD_eq_getElem?_getD]
  by_cases h : k = j
  · subst h; simp [hk]
  · rw [if_neg h, if_neg (Ne.symm h)]
theorem getD_rep {α : Type} {n k : Nat} (hk : k < n) (x d : α) : (List.replicate n x).getD k d = x := by
  rw [List.getD_eq_getElem?_getD, List.getElem?_replicate, if_pos hk]; rfl
section
variable {qs : List (List Pr)} {ats : List Nat} {ens : List Bool} {ss : List Src} {out : List Pr} {c : Nat → Nat}
theorem OI.start (qs : List (List Pr)) : OI qs (List.replicate qs.length 0) (List.replicate qs.length false) (List.replicate qs.length default) [] (fun _ => 0) := by
  have hs : ∀ k, k < qs.length → sg (List.replicate qs.length default) k = default := fun k hk => getD_rep hk _ _
  refine ⟨by simp, by simp, by simp, fun k hk => ?_, fun k hk => ?_, fun k hk => ?_, fun k hk h => ?_, List.Pairwise.nil, by simp, by omega, by simp⟩
  · rw [getD_rep hk]; exact ⟨Nat.le_refl _, Nat.zero_le _⟩
  · rw [getD_rep hk, hs k hk]; simp [default]
  · rw [getD_rep hk, hs k hk]; exact ⟨rfl, by simp⟩
  · rw [hs k hk] at h; cases h
theorem OI.give (h : OI qs ats ens ss out c) (hq : ∀ k, k < qs.length → Up (qs.getD k [])) {k to : Nat} (hk : k < qs.length) (he : ens.getD k false = false) (h1 : ats.getD k 0 ≤ to) (h2 : to ≤ (qs.getD k []).length) :
    (giveS ss k (((qs.getD k []).take to).drop (ats.getD k 0)) (decide (to = (qs.getD k []).length))).2 = 0 ∧
    OI qs (ats.set k to) (ens.set k (decide (to = (qs.getD k []).length))) (giveS ss k (((qs.getD k []).take to).drop (ats.getD k 0)) (decide (to = (qs.getD k []).length))).1 out c := by
  have hkc : k < ss.length := by rw [h.l1]; exact hk
  obtain ⟨q, hqd⟩ : ∃ q, q = qs.getD k [] := ⟨_, rfl⟩
  obtain ⟨a, had⟩ : ∃ a, a = ats.getD k 0 := ⟨_, rfl⟩
  have e1 := (h.en k hk).1
  rw [he] at e1
  have hca := h.ca k hk
  have hlst := h.lst k hk
  have hgv := h.gv k hk
  rw [← hqd] at h2 hca hlst hgv ⊢
  rw [← had] at h1 hca hlst hgv ⊢
  have huq : Up q := by rw [hqd]; exact hq k hk
  have hll : ((q.take to).drop a).length = to - a := td_len h2
  have hfit : fits (sg ss k) ((q.take to).drop a) = true := by
    unfold fits
    rw [(rise_up _).2 (td_up huq a to), Bool.true_and, hll]
    by_cases hz : to - a = 0
    · rw [hz]; rfl
    · cases hg : (sg ss k).given with
      | false => simp
      | true =>
        obtain ⟨g1, g2⟩ := hgv hg
        rw [g2, td_getD (by omega), Nat.add_zero, up_get huq (show a - 1 < a by omega) (by omega)]
        simp
  have hgs : giveS ss k ((q.take to).drop a) (decide (to = q.length)) = (ss.set k (gave (sg ss k) ((q.take to).drop a) (decide (to = q.length))), 0) := by
    unfold giveS
    rw [Int.toNat_natCast, if_neg (by rintro (h | h | h) <;> first | omega | (rw [e1] at h; cases h)), if_neg (by rw [hfit]; simp)]
  rw [hgs]
  have hka : k < ats.length := by rw [h.l2]; exact hk
  have hke : k < ens.length := by rw [h.l3]; exact hk
  refine ⟨rfl, by rw [List.length_set]; exact h.l1, by rw [List.length_set]; exact h.l2, by rw [List.length_set]; exact h.l3, fun j hj => ?_, fun j hj => ?_, fun j hj => ?_, fun j hj => ?_, h.up, h.sub, h.old, h.new⟩
  · rw [getD_set hka]
    by_cases hjk : j = k
    · subst hjk
      rw [if_pos rfl, ← hqd]
      exact ⟨by omega, h2⟩
    · rw [if_neg hjk]; exact h.ca j hj
  · rw [getD_set hka, sg_set hkc]
    by_cases hjk : j = k
    · subst hjk
      rw [if_pos rfl, if_pos rfl, ← hqd]
      show (sg ss j).l ++ (q.take to).drop a = _
      rw [hlst]
      exact td_app hca.1 h1
    · rw [if_neg hjk, if_neg hjk]; exact h.lst j hj
  · rw [getD_set hka, getD_set hke, sg_set hkc]
    by_cases hjk : j = k
    · subst hjk
      rw [if_pos rfl, if_pos rfl, if_pos rfl, ← hqd]
      exact ⟨rfl, fun hh => of_decide_eq_true hh⟩
    · rw [if_neg hjk, if_neg hjk, if_neg hjk]; exact h.en j hj
  · rw [getD_set hka, sg_set hkc]
    by_cases hjk : j = k
    · subst hjk
      rw [if_pos rfl, if_pos rfl, ← hqd]
      intro hg
      unfold gave at hg ⊢
      simp only [hll] at hg ⊢
      by_cases hz : to - a = 0
      · rw [if_pos hz]
        rw [hz] at hg
        simp at hg
        obtain ⟨g1, g2⟩ := hgv hg
        have : to = a := by omega
        rw [this]
        exact ⟨g1, g2⟩
      · rw [if_neg hz, td_getD (by omega), show a + (to - a - 1) = to - 1 by omega]
        exact ⟨by omega, rfl⟩
    · rw [if_neg hjk, if_neg hjk]; exact h.gv j hj
theorem not_wanting (hw : wantsS ss < 0) {k : Nat} (hk : k < ss.length) : (sg ss k).l ≠ [] ∨ (sg ss k).ended = true := by
  by_cases hl : (sg ss k).l = []
  · right
    cases he : (sg ss k).ended with
    | true => rfl
    | false =>
      exfalso
      have hwk : wanting (sg ss k) = true := by unfold wanting; rw [hl, he]; rfl
      unfold wantsS at hw
      cases hf : ss.findIdx? wanting with
      | some i => rw [hf] at hw; simp at hw; omega
      | none =>
        rw [List.findIdx?_eq_none_iff] at hf
        have := hf (sg ss k) (by unfold sg; exact mem_getD hk default)
        rw [hwk] at this; cases this
  · exact .inl hl
theorem lt_tri' {p q : Pr} (h : ltP q p = false) (hne : p ≠ q) : ltP p q = true := by
  cases hh : ltP p q with
  | true => rfl
  | false => exact absurd (lt_tri hh h) hne
theorem head_td {q : List Pr} {a b : Nat} (h : (q.take a).drop b ≠ []) (ha : a ≤ q.length) : b < a ∧ ((q.take a).drop b).head? = some (q.getD b (0, 0)) := by
  have hl : 0 < ((q.take a).drop b).length := List.length_pos_iff.2 h
  rw [td_len ha] at hl
  refine ⟨by omega, ?_⟩
  rw [List.head?_drop, List.getElem?_take, if_pos (by omega), List.getD_eq_getElem?_getD, List.getElem?_eq_getElem (show b < q.length by omega)]
  rfl
theorem OI.next (h : OI qs ats ens ss out c) (hq : ∀ k, k < qs.length → Up (qs.getD k [])) {p : Pr} {ss' : List Src} (hn : NextR ss (some p) ss') :
    OI qs ats ens ss' (out ++ [p]) (fun k => if (sg ss k).l.head? = some p then c k + 1 else c k) := by
  rcases hn with ⟨_, hn, _⟩ | ⟨hw, p', hm, hn, rfl⟩
  · cases hn
  cases hn
  have hsm : ∀ k, k < qs.length → sg (ss.map (adv1 p)) k = adv1 p (sg ss k) := fun k hk => sg_map (by rw [h.l1]; exact hk)
  -- p stands first in a source
  obtain ⟨k0, hk0, hp0⟩ : ∃ k, k < qs.length ∧ (sg ss k).l.head? = some p := by
    obtain ⟨s, hs, hh⟩ := hm.1
    obtain ⟨k, hk, rfl⟩ := List.mem_iff_getElem.1 hs
    exact ⟨k, by rw [← h.l1]; exact hk, by rw [sg_get hk]; exact hh⟩
  have hat : ∀ k, k < qs.length → (sg ss k).l.head? = some p → c k < ats.getD k 0 ∧ p = (qs.getD k []).getD (c k) (0, 0) := fun k hk hh => by
    rw [h.lst k hk] at hh
    have hne : ((qs.getD k []).take (ats.getD k 0)).drop (c k) ≠ [] := fun e => by rw [e] at hh; cases hh
    obtain ⟨h1, h2⟩ := head_td hne (h.ca k hk).2
    rw [h2] at hh
    exact ⟨h1, (Option.some.inj hh).symm⟩
  obtain ⟨hc0, hpe⟩ := hat k0 hk0 hp0
  have hlt : ∀ x ∈ out, ltP x p = true := fun x hx => by
    rw [hpe]
    exact h.new k0 hk0 (c k0) (Nat.le_refl _) (by have := (h.ca k0 hk0).2; omega) x hx
  refine ⟨by rw [List.length_map]; exact h.l1, h.l2, h.l3, fun k hk => ?_, fun k hk => ?_, fun k hk => ?_, fun k hk hg => ?_, ?_, fun x hx => ?_, fun k hk j hj => ?_, fun k hk j hj hjl x hx => ?_⟩
  · show (if (sg ss k).l.head? = some p then c k + 1 else c k) ≤ _ ∧ _
    by_cases hh : (sg ss k).l.head? = some p
    · rw [if_pos hh]
      exact ⟨(hat k hk hh).1, (h.ca k hk).2⟩
    · rw [if_neg hh]; exact h.ca k hk
  · rw [hsm k hk]
    show _ = List.drop (if (sg ss k).l.head? = some p then c k + 1 else c k) _
    unfold adv1
    by_cases hh : (sg ss k).l.head? = some p
    · rw [if_pos hh, if_pos hh]
      show (sg ss k).l.tail = _
      rw [h.lst k hk, List.tail_drop]
    · rw [if_neg hh, if_neg hh]; exact h.lst k hk
  · rw [hsm k hk]
    have : (adv1 p (sg ss k)).ended = (sg ss k).ended := by unfold adv1; split <;> rfl
    rw [this]
    exact h.en k hk
  · rw [hsm k hk] at hg ⊢
    have e1 : (adv1 p (sg ss k)).given = (sg ss k).given := by unfold adv1; split <;> rfl
    have e2 : (adv1 p (sg ss k)).last = (sg ss k).last := by unfold adv1; split <;> rfl
    rw [e1] at hg
    rw [e2]
    exact h.gv k hk hg
  · unfold Up
    rw [List.pairwise_append]
    refine ⟨h.up, by simp, fun x hx y hy => ?_⟩
    rw [List.mem_singleton] at hy
    rw [hy]
    exact hlt x hx
  · rw [List.mem_append, List.mem_singleton] at hx
    rcases hx with hx | rfl
    · exact h.sub x hx
    · rw [List.mem_flatten]
      refine ⟨qs.getD k0 [], mem_getD hk0 _, ?_⟩
      rw [hpe]
      exact mem_getD (by have := (h.ca k0 hk0).2; omega) _
  · change j < (if (sg ss k).l.head? = some p then c k + 1 else c k) at hj
    rw [List.mem_append, List.mem_singleton]
    by_cases hh : (sg ss k).l.head? = some p
    · rw [if_pos hh] at hj
      by_cases hjc : j = c k
      · right; rw [hjc]; exact (hat k hk hh).2.symm
      · left; exact h.old k hk j (by omega)
    · rw [if_neg hh] at hj
      left; exact h.old k hk j hj
  · change (if (sg ss k).l.head? = some p then c k + 1 else c k) ≤ j at hj
    have hcj : c k ≤ j := by
      by_cases hh : (sg ss k).l.head? = some p
      · rw [if_pos hh] at hj; omega
      · rw [if_neg hh] at hj; exact hj
    rw [List.mem_append, List.mem_singleton] at hx
    rcases hx with hx | rfl
    · exact h.new k hk j hcj hjl x hx
    · by_cases hne : (sg ss k).l = []
      · exfalso
        have hen := (not_wanting hw (by rw [h.l1]; exact hk)).resolve_left fun hh => hh hne
        have he := h.en k hk
        rw [he.1] at hen
        have hal := he.2 hen
        have hlk := h.lst k hk
        rw [hne] at hlk
        have := congrArg List.length hlk
        rw [List.length_nil, td_len (h.ca k hk).2] at this
        have := (h.ca k hk).1
        omega
      · have hne' := hne
        rw [h.lst k hk] at hne'
        obtain ⟨h1, h2⟩ := head_td hne' (h.ca k hk).2
        rw [← h.lst k hk] at h2
        have hmin := hm.2 (sg ss k) (by unfold sg; exact mem_getD (by rw [h.l1]; exact hk) default) _ h2
        by_cases hh : (sg ss k).l.head? = some x
        · rw [if_pos hh] at hj
          rw [(hat k hk hh).2]
          exact up_get (hq k hk) (by omega) hjl
        · have hlt1 : ltP x ((qs.getD k []).getD (c k) (0, 0)) = true := lt_tri' hmin fun e => hh (by rw [h2, e])
          by_cases hjc : j = c k
          · rw [hjc]; exact hlt1
          · exact lt_trans' hlt1 (up_get (hq k hk) (by omega) hjl)
/-- What was told is the beginning of what all make. -/
theorem OI.outW (h : OI qs ats ens ss out c) : out = (sortP qs.flatten).take out.length ∧ out.length ≤ (sortP qs.flatten).length := by
  have hw := sortP_is qs.flatten
  have hrest : Up ((sortP qs.flatten).filter fun y => decide (y ∉ out)) := by
    unfold Up
    exact hw.1.sublist List.filter_sublist
  have hcross : ∀ y ∈ qs.flatten, y ∉ out → ∀ p ∈ out, ltP p y = true := by
    intro y hy hn p hp
    obtain ⟨q, hq, hyq⟩ := List.mem_flatten.1 hy
    obtain ⟨k, hk, rfl⟩ := List.mem_iff_getElem.1 hq
    have eq : qs.getD k [] = qs[k] := by rw [List.getD_eq_getElem?_getD, List.getElem?_eq_getElem hk]; rfl
    rw [← eq] at hyq
    obtain ⟨j, hj, rfl⟩ := mem_idx hyq
    by_cases hjc : j < c k
    · exact absurd (h.old k hk j hjc) hn
    · exact h.new k hk j (by omega) hj p hp
  have hall : Up (out ++ (sortP qs.flatten).filter fun y => decide (y ∉ out)) := by
    unfold Up
    rw [List.pairwise_append]
    refine ⟨h.up, hrest, fun x hx y hy => ?_⟩
    rw [List.mem_filter, decide_eq_true_eq] at hy
    exact hcross y ((hw.2 y).1 hy.1) hy.2 x hx
  have he := up_unique hall hw.1 (fun x => by
    rw [List.mem_append, List.mem_filter, decide_eq_true_eq]
    constructor
    · rintro (hx | hx)
      · exact (hw.2 x).2 (h.sub x hx)
      · exact hx.1
    · intro hx
      by_cases ho : x ∈ out
      · exact .inl ho
      · exact .inr ⟨hx, ho⟩)
  constructor
  · rw [← he, List.take_left]
  · rw [← he, List.length_append]; omega
theorem OI.told {most : Nat} {ss' : List Src} {out' : List Pr} (hT : Told most ss out ss' out') (hq : ∀ k, k < qs.length → Up (qs.getD k [])) (hm : (sortP qs.flatten).length ≤ most) : ∀ {c : Nat → Nat}, OI qs ats ens ss out c → ∃ c', OI qs ats ens ss' out' c' ∧ NextR ss' none ss' := by
  induction hT with
  | stop hn =>
    intro c h
    rcases hn with ⟨h1, h2, rfl⟩ | ⟨_, p, _, h2, _⟩
    · exact ⟨c, h, .inl ⟨h1, rfl, rfl⟩⟩
    · cases h2
  | full hn hml =>
    intro c h
    have := h.outW.2
    omega
  | more hn hml _ ih =>
    intro c h
    exact ih (h.next hq hn)
/-- All given, all told. -/
theorem OI.done (h : OI qs ats ens ss out c) (he : ∀ k, k < qs.length → ens.getD k false = true) (hn : NextR ss none ss) : out = sortP qs.flatten ∧ wantsS ss = -1 ∧ leftS ss = 0 := by
  have hw : wantsS ss = -1 := wantsS_none fun j hj => by
    have := h.en j (by rw [← h.l1]; exact hj)
    rw [he j (by rw [← h.l1]; exact hj)] at this
    unfold wanting
    rw [this.1]; simp
  have hempty : ∀ s ∈ ss, s.l = [] := by
    rcases hn with ⟨h1, _, _⟩ | ⟨_, p, _, h2, _⟩
    · rcases h1 with h1 | h1
      · omega
      · exact h1
    · cases h2
  refine ⟨?_, hw, ?_⟩
  · have hfull : ∀ y ∈ qs.flatten, y ∈ out := by
      intro y hy
      obtain ⟨q, hq, hyq⟩ := List.mem_flatten.1 hy
      obtain ⟨k, hk, rfl⟩ := List.mem_iff_getElem.1 hq
      have eq : qs.getD k [] = qs[k] := by rw [List.getD_eq_getElem?_getD, List.getElem?_eq_getElem hk]; rfl
      rw [← eq] at hyq
      obtain ⟨j, hj, rfl⟩ := mem_idx hyq
      have h1 := hempty (sg ss k) (by unfold sg; exact mem_getD (by rw [h.l1]; exact hk) default)
      have h2 := h.lst k hk
      rw [h1] at h2
      have h3 := congrArg List.length h2
      rw [List.length_nil, td_len (h.ca k hk).2] at h3
      have h4 := (h.en k hk).2 (he k hk)
      exact h.old k hk j (by omega)
    exact up_unique h.up (sortP_is _).1 fun x => ⟨fun hx => (sort_mem' _ x).2 (h.sub x hx), fun hx => hfull x ((sort_mem' _ x).1 hx)⟩
  · unfold leftS
    have : ∀ l : List Src, (∀ s ∈ l, s.l = []) → (l.map fun s => s.l.length).sum = 0 := by
      intro l
      induction l with
      | nil => intro _; rfl
      | cons a l ih =>
        intro hl
        rw [List.map_cons, List.sum_cons, hl a List.mem_cons_self, ih fun s hs => hl s (List.mem_cons_of_mem _ hs)]
        rfl
    rw [this ss hempty]
    rfl
end
end Go.Proofs.Ytcgejfmbhpmjfaa
