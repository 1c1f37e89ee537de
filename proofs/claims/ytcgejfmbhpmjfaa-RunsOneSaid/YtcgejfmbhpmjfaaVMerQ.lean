/- Plain Lean: the sources and the heap's numbers behind a Give, and as Next goes through them. -/
import Derived.Test.YtcgejfmbhpmjfaaVMerP
set_option linter.unusedSimpArgs false
set_option linter.unusedVariables false
set_option maxRecDepth 20000
namespace Go.Proofs.Ytcgejfmbhpmjfaa
open Go Go.V

theorem HeapOK.congr {key key' : Nat → Pr} {hp : List Nat} (h : HeapOK key hp) (he : ∀ x ∈ hp, key x = key' x) : HeapOK key' hp := by
  intro j h0 hj
  have m1 : hp.getD j 0 ∈ hp := mem_getD hj 0
  have m2 : hp.getD ((j - 1) / 2) 0 ∈ hp := mem_getD (by omega) 0
  have := h j h0 hj
  unfold OkAt at *
  rw [← he _ m1, ← he _ m2]
  exact this
theorem up_last {l : List Pr} (h : Up l) {x p : Pr} (hx : l.getLast? = some p) (hm : x ∈ l) : x = p ∨ ltP x p = true := by
  obtain ⟨ys, rfl⟩ := List.getLast?_eq_some_iff.1 hx
  rw [List.mem_append, List.mem_singleton] at hm
  rcases hm with hm | hm
  · right
    unfold Up at h
    rw [List.pairwise_append] at h
    exact h.2.2 x hm p (by simp)
  · exact .inl hm
theorem up_head {l : List Pr} (h : Up l) (hn : l ≠ []) {x : Pr} (hm : x ∈ l) : l.getD 0 (0, 0) = x ∨ ltP (l.getD 0 (0, 0)) x = true := by
  match l, hn with
  | a :: t, _ =>
    rw [List.mem_cons] at hm
    rcases hm with hm | hm
    · exact .inl hm.symm
    · unfold Up at h
      rw [List.pairwise_cons] at h
      exact .inr (h.1 x hm)
theorem hd_of {ss : List Src} {i : Nat} (h : (sg ss i).l ≠ []) : (sg ss i).l.head? = some (hd ss i) := by
  unfold hd
  match hl : (sg ss i).l, h with
  | a :: t, _ => rfl
theorem fits_up {s : Src} {l : List Pr} (hu : Up s.l) (hl : s.l ≠ [] → s.given = true ∧ s.l.getLast? = some s.last) (h : fits s l = true) : Up (s.l ++ l) := by
  simp only [fits, Bool.and_eq_true, Bool.or_eq_true, decide_eq_true_eq, Bool.not_eq_true'] at h
  obtain ⟨h1, h2⟩ := h
  rw [rise_up] at h1
  by_cases hs : s.l = []
  · rw [hs, List.nil_append]; exact h1
  · by_cases hln : l = []
    · rw [hln, List.append_nil]; exact hu
    · obtain ⟨hg, hla⟩ := hl hs
      have h3 : ltP s.last (l.getD 0 (0, 0)) = true := by
        rcases h2 with (h2 | h2) | h2
        · exact absurd (List.eq_nil_of_length_eq_zero h2) hln
        · rw [hg] at h2; cases h2
        · exact h2
      unfold Up
      rw [List.pairwise_append]
      refine ⟨hu, h1, fun x hx y hy => ?_⟩
      have a : ltP x (l.getD 0 (0, 0)) = true := by
        rcases up_last hu hla hx with e | e
        · rw [e]; exact h3
        · exact lt_trans' e h3
      rcases up_head h1 hln hy with e | e
      · rw [← e]; exact a
      · exact lt_trans' a e
theorem gave_last {s : Src} {l : List Pr} {b : Bool} (hl : s.l ≠ [] → s.given = true ∧ s.l.getLast? = some s.last) : (gave s l b).l ≠ [] → (gave s l b).given = true ∧ (gave s l b).l.getLast? = some (gave s l b).last := by
  intro hn
  unfold gave at *
  by_cases hln : l = []
  · subst hln
    simp only [List.append_nil] at hn
    obtain ⟨h1, h2⟩ := hl hn
    simp [h1, h2]
  · have h0 : l.length ≠ 0 := fun h => hln (List.eq_nil_of_length_eq_zero h)
    simp only [h0, decide_false, Bool.not_false, Bool.or_true, if_false, true_and]
    rw [List.getLast?_append, List.getLast?_eq_getElem?, List.getD_eq_getElem?_getD, List.getElem?_eq_getElem (show l.length - 1 < l.length by omega)]
    rfl
/-- Behind a Give: the heap has its number if it was empty before. -/
theorem MS.give {ss : List Src} {hp hp' : List Nat} {i : Nat} {l : List Pr} {b : Bool} (h : MS ss hp) (hi : i < ss.length) (hf : fits (sg ss i) l = true)
    (hh : hp' = hp ∧ ((sg ss i).l ≠ [] ∨ l = []) ∨ hp'.Perm (hp ++ [i]) ∧ HeapOK (hd (ss.set i (gave (sg ss i) l b))) hp' ∧ (sg ss i).l = [] ∧ l ≠ []) : MS (ss.set i (gave (sg ss i) l b)) hp' := by
  have hgl : (gave (sg ss i) l b).l = (sg ss i).l ++ l := rfl
  have hup : ∀ j, j < (ss.set i (gave (sg ss i) l b)).length → Up (sg (ss.set i (gave (sg ss i) l b)) j).l := by
    intro j hj
    rw [sg_set hi]
    by_cases hji : j = i
    · rw [if_pos hji]; exact fits_up (h.up i hi) (h.last i hi) hf
    · rw [if_neg hji]; exact h.up j (by simpa using hj)
  have hla : ∀ j, j < (ss.set i (gave (sg ss i) l b)).length → (sg (ss.set i (gave (sg ss i) l b)) j).l ≠ [] → (sg (ss.set i (gave (sg ss i) l b)) j).given = true ∧ (sg (ss.set i (gave (sg ss i) l b)) j).l.getLast? = some (sg (ss.set i (gave (sg ss i) l b)) j).last := by
    intro j hj
    rw [sg_set hi]
    by_cases hji : j = i
    · rw [if_pos hji]; exact gave_last (h.last i hi)
    · rw [if_neg hji]; exact h.last j (by simpa using hj)
  rcases hh with ⟨rfl, hh⟩ | ⟨hp1, hok, h1, h2⟩
  · refine ⟨h.nodup, fun j => ?_, h.heap.congr fun x hx => ?_, hup, hla⟩
    · rw [h.mem, List.length_set, sg_set hi]
      by_cases hji : j = i
      · subst hji
        rw [if_pos rfl, hgl]
        rcases hh with hh | hh
        · simp [hh]
        · simp [hh]
      · rw [if_neg hji]
    · unfold hd
      rw [sg_set hi]
      by_cases hji : x = i
      · subst hji
        rw [if_pos rfl, hgl]
        have hne := ((h.mem x).1 hx).2
        match hs : (sg ss x).l, hne with
        | a :: t, _ => rfl
      · rw [if_neg hji]
  · have hni : i ∉ hp := fun hx => ((h.mem i).1 hx).2 h1
    refine ⟨hp1.nodup_iff.2 ?_, fun j => ?_, hok, hup, hla⟩
    · rw [List.nodup_append]
      exact ⟨h.nodup, by simp, fun a ha b hb => by rw [List.mem_singleton] at hb; rw [hb]; exact fun e => hni (e ▸ ha)⟩
    · rw [hp1.mem_iff, List.mem_append, List.mem_singleton, h.mem, List.length_set, sg_set hi]
      by_cases hji : j = i
      · subst hji
        rw [if_pos rfl, hgl, h1]
        simp [hi, h2]
      · rw [if_neg hji]
        simp [hji]
/-- Its first arc taken from source t. -/
def drop1 (ss : List Src) (t : Nat) : List Src := ss.set t { sg ss t with l := (sg ss t).l.tail }
theorem drop1_len (ss : List Src) (t : Nat) : (drop1 ss t).length = ss.length := by simp [drop1]
theorem sg_drop1 {ss : List Src} {t : Nat} (ht : t < ss.length) (j : Nat) : sg (drop1 ss t) j = if j = t then { sg ss t with l := (sg ss t).l.tail } else sg ss j := sg_set ht _ _
theorem hd_drop1 {ss : List Src} {t : Nat} (ht : t < ss.length) {j : Nat} (hj : j ≠ t) : hd (drop1 ss t) j = hd ss j := by
  unfold hd; rw [sg_drop1 ht, if_neg hj]
theorem MS.drop1 {ss : List Src} {hp hp' hp'' : List Nat} {t : Nat} (h : MS ss hp) (hp1 : (t :: hp').Perm hp)
    (hh : hp'' = hp' ∧ (sg ss t).l.tail = [] ∧ HeapOK (hd ss) hp' ∨ hp''.Perm (hp' ++ [t]) ∧ HeapOK (hd (drop1 ss t)) hp'' ∧ (sg ss t).l.tail ≠ []) : MS (drop1 ss t) hp'' := by
  have ht : t < ss.length ∧ (sg ss t).l ≠ [] := (h.mem t).1 (hp1.mem_iff.1 (by simp))
  have hnd := hp1.nodup_iff.2 h.nodup
  rw [List.nodup_cons] at hnd
  have hup : ∀ j, j < (Go.Proofs.Ytcgejfmbhpmjfaa.drop1 ss t).length → Up (sg (Go.Proofs.Ytcgejfmbhpmjfaa.drop1 ss t) j).l := by
    intro j hj
    rw [drop1_len] at hj
    rw [sg_drop1 ht.1]
    by_cases hjt : j = t
    · rw [if_pos hjt]
      have := h.up t ht.1
      unfold Up at *
      match hs : (sg ss t).l, ht.2 with
      | a :: r, _ => rw [hs, List.pairwise_cons] at this; exact this.2
    · rw [if_neg hjt]; exact h.up j hj
  have hla : ∀ j, j < (Go.Proofs.Ytcgejfmbhpmjfaa.drop1 ss t).length → (sg (Go.Proofs.Ytcgejfmbhpmjfaa.drop1 ss t) j).l ≠ [] → (sg (Go.Proofs.Ytcgejfmbhpmjfaa.drop1 ss t) j).given = true ∧ (sg (Go.Proofs.Ytcgejfmbhpmjfaa.drop1 ss t) j).l.getLast? = some (sg (Go.Proofs.Ytcgejfmbhpmjfaa.drop1 ss t) j).last := by
    intro j hj
    rw [drop1_len] at hj
    rw [sg_drop1 ht.1]
    by_cases hjt : j = t
    · rw [if_pos hjt]
      intro hn
      obtain ⟨h1, h2⟩ := h.last t ht.1 ht.2
      refine ⟨h1, ?_⟩
      match hs : (sg ss t).l, ht.2 with
      | [a], _ => simp [hs] at hn
      | a :: b :: r, _ => rw [hs] at h2; simpa using h2
    · rw [if_neg hjt]; exact h.last j hj
  have hmem : ∀ j, j ∈ hp' ↔ (j < ss.length ∧ (sg ss j).l ≠ []) ∧ j ≠ t := by
    intro j
    rw [← h.mem, ← hp1.mem_iff, List.mem_cons]
    constructor
    · intro hj; exact ⟨.inr hj, fun e => hnd.1 (e ▸ hj)⟩
    · rintro ⟨hj | hj, hne⟩
      · exact absurd hj hne
      · exact hj
  rcases hh with ⟨rfl, h1, hok⟩ | ⟨hp2, hok, h1⟩
  · refine ⟨hnd.2, fun j => ?_, hok.congr fun x hx => (hd_drop1 ht.1 ((hmem x).1 hx).2).symm, hup, hla⟩
    rw [hmem, drop1_len, sg_drop1 ht.1]
    by_cases hjt : j = t
    · subst hjt; simp [h1]
    · rw [if_neg hjt]; simp [hjt]
  · refine ⟨hp2.nodup_iff.2 ?_, fun j => ?_, hok, hup, hla⟩
    · rw [List.nodup_append]
      exact ⟨hnd.2, by simp, fun a ha b hb => by rw [List.mem_singleton] at hb; rw [hb]; exact fun e => hnd.1 (e ▸ ha)⟩
    · rw [hp2.mem_iff, List.mem_append, List.mem_singleton, hmem, drop1_len, sg_drop1 ht.1]
      by_cases hjt : j = t
      · subst hjt
        rw [if_pos rfl]
        simp [ht.1, h1]
      · rw [if_neg hjt]; simp [hjt]
/-- Some of those with p first have lost it. -/
structure NI (p : Pr) (ss cur : List Src) : Prop where
  len : cur.length = ss.length
  one : ∀ i, i < ss.length → sg cur i = sg ss i ∨ (sg ss i).l.head? = some p ∧ sg cur i = adv1 p (sg ss i)
  ge : ∀ i, i < ss.length → ∀ q, (sg cur i).l.head? = some q → ltP q p = false
theorem NI.start {p : Pr} {ss : List Src} (h : IsMin ss p) : NI p ss ss :=
  ⟨rfl, fun _ _ => .inl rfl, fun i hi q hq => h.2 (sg ss i) (by unfold sg; exact mem_getD hi default) q hq⟩
theorem NI.step {p : Pr} {ss cur : List Src} {t : Nat} (h : NI p ss cur) (ht : t < ss.length) (hu : Up (sg cur t).l) (hp : (sg cur t).l.head? = some p) (hu0 : Up (sg ss t).l) : NI p ss (drop1 cur t) := by
  have htc : t < cur.length := by rw [h.len]; exact ht
  refine ⟨by rw [drop1_len, h.len], fun i hi => ?_, fun i hi q => ?_⟩
  · rw [sg_drop1 htc]
    by_cases hit : i = t
    · subst hit
      rw [if_pos rfl]
      rcases h.one i ht with e | ⟨e1, e2⟩
      · right
        rw [e] at hp ⊢
        refine ⟨hp, ?_⟩
        unfold adv1
        rw [if_pos hp]
      · exfalso
        rw [e2] at hp
        unfold adv1 at hp
        rw [if_pos e1] at hp
        match hs : (sg ss i).l, e1 with
        | a :: r, e1 =>
          rw [hs] at hu0
          simp only [List.tail_cons, List.head?_cons, Option.some.injEq] at hp e1
          unfold Up at hu0
          rw [List.pairwise_cons] at hu0
          rw [hs, List.tail_cons] at hp
          have := hu0.1 p (List.mem_of_mem_head? (by rw [hp]; simp))
          rw [e1, lt_irrefl'] at this; cases this
    · rw [if_neg hit]; exact h.one i hi
  · rw [sg_drop1 htc]
    by_cases hit : i = t
    · subst hit
      rw [if_pos rfl]
      intro hq
      match hs : (sg cur i).l, hp with
      | a :: r, hp =>
        rw [hs] at hq hu
        simp only [List.tail_cons, List.head?_cons, Option.some.injEq] at hq hp
        unfold Up at hu
        rw [List.pairwise_cons] at hu
        have := hu.1 q (List.mem_of_mem_head? (by rw [hq]; simp))
        rw [hp] at this
        exact nlt_of this
    · rw [if_neg hit]; exact h.ge i hi q
theorem sg_map {ss : List Src} {f : Src → Src} {i : Nat} (hi : i < ss.length) : sg (ss.map f) i = f (sg ss i) := by
  unfold sg
  rw [List.getD_eq_getElem?_getD, List.getElem?_map, List.getElem?_eq_getElem hi, List.getD_eq_getElem?_getD, List.getElem?_eq_getElem hi]
  rfl
theorem ext_sg {a b : List Src} (hl : a.length = b.length) (h : ∀ i, i < a.length → sg a i = sg b i) : a = b := by
  apply List.ext_getElem? 
  intro i
  by_cases hi : i < a.length
  · have := h i hi
    unfold sg at this
    rw [List.getD_eq_getElem?_getD, List.getD_eq_getElem?_getD, List.getElem?_eq_getElem hi, List.getElem?_eq_getElem (show i < b.length by omega)] at this
    rw [List.getElem?_eq_getElem hi, List.getElem?_eq_getElem (show i < b.length by omega)]
    exact congrArg some this
  · rw [List.getElem?_eq_none (by omega), List.getElem?_eq_none (by omega)]
theorem NI.done {p : Pr} {ss cur : List Src} (h : NI p ss cur) (hn : ∀ i, i < ss.length → (sg cur i).l.head? ≠ some p) : cur = ss.map (adv1 p) := by
  refine ext_sg (by rw [h.len]; simp) fun i hi => ?_
  rw [h.len] at hi
  rw [sg_map hi]
  rcases h.one i hi with e | ⟨_, e⟩
  · rw [e]
    unfold adv1
    rw [if_neg (by rw [← e]; exact hn i hi)]
  · exact e
/-- The top's first arc is the least. -/
theorem MS.min {ss : List Src} {hp : List Nat} (h : MS ss hp) (hne : hp ≠ []) : IsMin ss (hd ss (hp.getD 0 0)) := by
  have hl : 0 < hp.length := List.length_pos_iff.2 hne
  obtain ⟨h1, h2⟩ := (h.mem _).1 (mem_getD hl 0)
  refine ⟨⟨sg ss (hp.getD 0 0), by unfold sg; exact mem_getD h1 default, hd_of h2⟩, fun s hs q hq => ?_⟩
  obtain ⟨i, hi, rfl⟩ := List.mem_iff_getElem.1 hs
  have hsg : sg ss i = ss[i] := by unfold sg; rw [List.getD_eq_getElem?_getD, List.getElem?_eq_getElem hi]; rfl
  have hn : (sg ss i).l ≠ [] := by rw [hsg]; intro e; rw [e] at hq; cases hq
  have hm : i ∈ hp := (h.mem i).2 ⟨hi, hn⟩
  obtain ⟨j, hj, hji⟩ := List.mem_iff_getElem.1 hm
  have hmin := top_min h.heap j hj
  have e1 : hp.getD j 0 = i := by rw [List.getD_eq_getElem?_getD, List.getElem?_eq_getElem hj]; exact hji
  rw [e1] at hmin
  have e2 := hd_of hn
  rw [hsg, hq] at e2
  cases e2
  exact hmin
theorem MS.empty {ss : List Src} {hp : List Nat} (h : MS ss hp) (he : hp = []) : ∀ s ∈ ss, s.l = [] := by
  intro s hs
  obtain ⟨i, hi, rfl⟩ := List.mem_iff_getElem.1 hs
  have hsg : sg ss i = ss[i] := by unfold sg; rw [List.getD_eq_getElem?_getD, List.getElem?_eq_getElem hi]; rfl
  by_cases hn : ss[i].l = []
  · exact hn
  · have := (h.mem i).2 ⟨hi, by rw [hsg]; exact hn⟩
    rw [he] at this; simp at this
end Go.Proofs.Ytcgejfmbhpmjfaa
