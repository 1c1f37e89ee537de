/- The reference merger in memory. -/
import Derived.Test.YtcgejfmbhpmjfaaVMg
import Derived.Test.YtcgejfmbhpmjfaaVSmall
set_option linter.unusedSimpArgs false
set_option linter.unusedVariables false
set_option maxRecDepth 20000
namespace Go.Proofs.Ytcgejfmbhpmjfaa
open Go Go.V
-- 3: int
-- 24: pith/api.Pair
-- 22: []api.Pair
-- 91: pithref11.Merger
-- 110: pithref11.Source
structure RefH (H : Heap) (F : Nat → Prop) (M S : Nat) (lvs : List Value) (ss : List Src) : Prop where
  hM : H[M]? = some (.cells #[.slice (some ⟨S, 0, none⟩) ss.length ss.length] 91)
  hS : ∃ c, H[S]? = some (.cells c 110) ∧ SrcC c lvs ss
  hl : ∀ i, i < ss.length → Own2 H 0 24 2 (lvs.getD i undef) (cp (sg ss i).l)
  dis : ∀ i j, i < ss.length → j < ss.length → i ≠ j → blk (lvs.getD i undef) = none ∨ blk (lvs.getD i undef) ≠ blk (lvs.getD j undef)
  fM : F M
  fS : F S
  fl : ∀ i b, i < ss.length → blk (lvs.getD i undef) = some b → F b
  k64 : ss.length ≤ 64
section
variable {H H' H2 : Heap} {F : Nat → Prop} {M S : Nat} {lvs : List Value} {ss : List Src}
theorem RefH.keep (h : RefH H F M S lvs ss) (hk : ∀ b, F b → H'[b]? = H[b]?) : RefH H' F M S lvs ss := by
  obtain ⟨c, hc, hc2⟩ := h.hS
  exact ⟨by rw [hk _ h.fM]; exact h.hM, ⟨c, by rw [hk _ h.fS]; exact hc, hc2⟩, fun i hi => Own2.keep (h.hl i hi) fun g hg => hk g (h.fl i g hi hg), h.dis, h.fM, h.fS, h.fl, h.k64⟩
theorem RefH.lvlen (h : RefH H F M S lvs ss) : lvs.length = ss.length := by
  obtain ⟨c, _, hc⟩ := h.hS
  exact hc.2.1
theorem RefH.lt (h : RefH H F M S lvs ss) : M < H.size ∧ S < H.size := by
  obtain ⟨c, hc, _⟩ := h.hS
  exact ⟨(Array.getElem?_eq_some_iff.1 h.hM).1, (Array.getElem?_eq_some_iff.1 hc).1⟩
theorem RefH.ext (h : RefH H F M S lvs ss) (hx : Ext H H') : RefH H' F M S lvs ss := by
  obtain ⟨c, hc, hc2⟩ := h.hS
  obtain ⟨l1, l3⟩ := h.lt
  exact ⟨by rw [hx.get _ l1]; exact h.hM, ⟨c, by rw [hx.get _ l3]; exact hc, hc2⟩, fun i hi => Own2.ext (h.hl i hi) hx, h.dis, h.fM, h.fS, h.fl, h.k64⟩
theorem RefH.getM (h : RefH H F M S lvs ss) : hget H M 0 = some (.slice (some ⟨S, 0, none⟩) ss.length ss.length) := by
  rw [hget_cells h.hM]; rfl
theorem RefH.getS (h : RefH H F M S lvs ss) {i : Nat} (hi : i < ss.length) :
    hget H S (i * 5) = some (lvs.getD i undef) ∧ hget H S (i * 5 + 1) = some (.int .i64 (sg ss i).last.1) ∧ hget H S (i * 5 + 2) = some (.int .i64 (sg ss i).last.2) ∧ hget H S (i * 5 + 3) = some (.bool (sg ss i).given) ∧ hget H S (i * 5 + 4) = some (.bool (sg ss i).ended) := by
  obtain ⟨c, hc, hc2⟩ := h.hS
  have := hc2.get hi
  simp only [hget_cells hc]
  exact this
theorem RefH.getL (h : RefH H F M S lvs ss) {i : Nat} (hi : i < ss.length) : ∃ a cap, lvs.getD i undef = .slice a (sg ss i).l.length cap := prs_form (Own2.sl (h.hl i hi))
theorem RefH.getV (h : RefH H F M S lvs ss) {i : Nat} (hi : i < ss.length) : ∃ a cap, hget H S (i * 5) = some (.slice a (sg ss i).l.length cap) := by
  obtain ⟨a, cap, e⟩ := h.getL hi
  exact ⟨a, cap, by rw [(h.getS hi).1, e]⟩
theorem RefH.getHead (h : RefH H F M S lvs ss) {i : Nat} (hi : i < ss.length) (hn : (sg ss i).l ≠ []) :
    ∃ b o cap, lvs.getD i undef = .slice (some ⟨b, o, none⟩) (sg ss i).l.length cap ∧ hget H b o = some (.int .i64 (hd ss i).1) ∧ hget H b (o + 1) = some (.int .i64 (hd ss i).2) := by
  obtain ⟨a, cap, he⟩ := h.getL hi
  have hs : Prs H (lvs.getD i undef) (sg ss i).l := Own2.sl (h.hl i hi)
  rw [he] at hs
  have hpos : 0 < (sg ss i).l.length := List.length_pos_iff.2 hn
  obtain ⟨b, o, rfl⟩ := prs_at hs hpos
  have := prs_get hs hpos
  rw [Nat.zero_mul, Nat.add_zero] at this
  exact ⟨b, o, cap, he, this⟩
theorem RefH.tag {i g : Nat} (h : RefH H F M S lvs ss) (hi : i < ss.length) (hg : blk (lvs.getD i undef) = some g) : ∃ c, H[g]? = some (.cells c 24 (0, 0)) := (Own2.blk (h.hl i hi) hg).2.2
theorem RefH.tight (h : RefH H F M S lvs ss) : RefH H (fun b => F b ∧ b < H.size) M S lvs ss := by
  obtain ⟨l1, l3⟩ := h.lt
  exact ⟨h.hM, h.hS, h.hl, h.dis, ⟨h.fM, l1⟩, ⟨h.fS, l3⟩, fun i b hi hb => ⟨h.fl i b hi hb, (Own2.blk (h.hl i hi) hb).2.1⟩, h.k64⟩
/-- A source's fields laid anew, its list as it was. -/
theorem RefH.setS (h : RefH H F M S lvs ss) {i k : Nat} {xs : List Value} {s' : Src} (hi : i < ss.length) (hk : k + xs.length ≤ 5)
    (hn : five (lvs.getD i undef) s' = (five (lvs.getD i undef) (sg ss i)).take k ++ xs ++ (five (lvs.getD i undef) (sg ss i)).drop (k + xs.length)) (hl : s'.l = (sg ss i).l) :
    hcan H S (i * 5 + k) xs.length ∧ RefH (hput H S (i * 5 + k) xs) F M S lvs (ss.set i s') ∧ Ch F F H (hput H S (i * 5 + k) xs) := by
  obtain ⟨c, hc, hc2⟩ := h.hS
  have hlv := h.lvlen
  have k2 : ∀ b, b ≠ S → (hput H S (i * 5 + k) xs)[b]? = H[b]? := fun b hne' => hput_other _ _ _ _ hne'
  have hput2 := hc2.put hi hk hn
  have hls : lvs.set i (lvs.getD i undef) = lvs := by
    apply List.ext_getElem?
    intro j
    rw [List.getElem?_set]
    by_cases hij : i = j
    · subst hij
      rw [if_pos rfl, if_pos (by omega), List.getD_eq_getElem?_getD, List.getElem?_eq_getElem (by omega)]
      rfl
    · rw [if_neg hij]
  rw [hls] at hput2
  refine ⟨⟨c, _, _, hc, by have := hc2.1; omega, by simp⟩, ⟨?_, ⟨_, hput_same hc, hput2⟩, fun j hj => ?_, ?_, h.fM, h.fS, ?_, by rw [List.length_set]; exact h.k64⟩, ⟨by rw [hput_size]; exact Nat.le_refl _, fun _ h => .inl h, fun b _ hnf => k2 b (fun e => hnf (e ▸ h.fS))⟩⟩
  · rw [k2 _ (tag_ne h.hM hc (by decide)), List.length_set]; exact h.hM
  · rw [List.length_set] at hj
    rw [sg_set hi]
    have e : (if j = i then s' else sg ss j).l = (sg ss j).l := by
      by_cases hji : j = i
      · rw [if_pos hji, hl, hji]
      · rw [if_neg hji]
    rw [e]
    refine Own2.keep (h.hl j hj) fun g hg => k2 _ ?_
    obtain ⟨d, hd'⟩ := h.tag hj hg
    exact tag_ne hd' hc (by decide)
  · intro a b ha hb hab
    rw [List.length_set] at ha hb
    exact h.dis a b ha hb hab
  · intro a b ha
    rw [List.length_set] at ha
    exact h.fl a b ha
/-- A source's list laid anew. -/
theorem RefH.setL (h : RefH H F M S lvs ss) {i : Nat} {lv' : Value} {l' : List Pr} (hi : i < ss.length) (hx : Ext H H2) (hn : Own2 H2 0 24 2 lv' (cp l')) (ha : ∀ g, blk lv' = some g → blk (lvs.getD i undef) = some g ∨ H.size ≤ g) :
    hcan H2 S (i * 5) 1 ∧ ∃ F', RefH (hput H2 S (i * 5) [lv']) F' M S (lvs.set i lv') (ss.set i { sg ss i with l := l' }) ∧ Ch F F' H (hput H2 S (i * 5) [lv']) := by
  obtain ⟨c, hc, hc2⟩ := h.hS
  have hlv := h.lvlen
  obtain ⟨l1, l3⟩ := h.lt
  have hM2 : H2[M]? = _ := (hx.get _ l1).trans h.hM
  have hS2 : H2[S]? = some (.cells c 110) := by rw [hx.get _ l3]; exact hc
  have k2 : ∀ b, b ≠ S → (hput H2 S (i * 5) [lv'])[b]? = H2[b]? := fun b hne' => hput_other _ _ _ _ hne'
  have hput2 := hc2.put (k := 0) (xs := [lv']) hi (by simp) (lv' := lv') (s' := { sg ss i with l := l' }) (by rfl)
  rw [Nat.add_zero] at hput2
  refine ⟨⟨c, _, _, hS2, by have := hc2.1; omega, by simp⟩, fun b => F b ∨ blk lv' = some b, ⟨?_, ⟨_, hput_same hS2, hput2⟩, fun j hj => ?_, ?_, .inl h.fM, .inl h.fS, ?_, by rw [List.length_set]; exact h.k64⟩, ⟨by rw [hput_size]; exact hx.size, fun b hb' => ?_, fun b hb' hnf => ?_⟩⟩
  · rw [k2 _ (tag_ne hM2 hS2 (by decide)), List.length_set]; exact hM2
  · rw [List.length_set] at hj
    rw [sg_set hi, lv_set (by omega)]
    by_cases hji : j = i
    · rw [if_pos hji, if_pos hji]
      refine Own2.keep hn fun g hg => k2 _ ?_
      obtain ⟨_, _, cg, hcg⟩ := Own2.blk hn hg
      exact tag_ne hcg hS2 (by decide)
    · rw [if_neg hji, if_neg hji]
      refine Own2.keep (Own2.ext (h.hl j hj) hx) fun g hg => k2 _ ?_
      obtain ⟨_, _, cg, hcg⟩ := Own2.blk (Own2.ext (h.hl j hj) hx) hg
      exact tag_ne hcg hS2 (by decide)
  · intro a b ha' hb' hab
    rw [List.length_set] at ha' hb'
    rw [lv_set (by omega), lv_set (by omega)]
    have new : ∀ j, j < ss.length → j ≠ i → blk lv' = none ∨ blk lv' ≠ blk (lvs.getD j undef) := by
      intro j hj hji
      cases hb : blk lv' with
      | none => exact .inl rfl
      | some g =>
        right
        intro e
        rcases ha g hb with e1 | e1
        · rcases h.dis i j hi hj (Ne.symm hji) with e2 | e2
          · rw [e1] at e2; cases e2
          · exact e2 (by rw [e1, e])
        · obtain ⟨d, hd'⟩ := h.tag hj e.symm
          have := (Array.getElem?_eq_some_iff.1 hd').1
          omega
    by_cases hai : a = i
    · rw [if_pos hai, if_neg (fun e => hab (by rw [hai, e]))]
      exact new b hb' (fun e => hab (by rw [hai, e]))
    · rw [if_neg hai]
      by_cases hbi : b = i
      · rw [if_pos hbi]
        rcases new a ha' hai with e | e
        · rw [e]
          cases hba : blk (lvs.getD a undef) with
          | none => exact .inl rfl
          | some g => right; simp
        · exact .inr (Ne.symm e)
      · rw [if_neg hbi]
        exact h.dis a b ha' hb' hab
  · intro a b ha'
    rw [List.length_set] at ha'
    rw [lv_set (by omega)]
    by_cases hai : a = i
    · rw [if_pos hai]; exact fun e => .inr e
    · rw [if_neg hai]; exact fun e => .inl (h.fl a b ha' e)
  · rcases hb' with hb' | hb'
    · exact .inl hb'
    · rcases ha b hb' with e | e
      · exact .inl (h.fl i b hi e)
      · exact .inr e
  · rw [k2 b (fun e => hnf (e ▸ h.fS)), hx.get b hb']
end
end Go.Proofs.Ytcgejfmbhpmjfaa
