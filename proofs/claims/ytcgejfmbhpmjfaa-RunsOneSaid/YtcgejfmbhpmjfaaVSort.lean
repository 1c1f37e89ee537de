/- slices.SortFunc over arcs, by the shelf's contract: what the call owns is sorted in its place. -/
import Derived.Test.YtcgejfmbhpmjfaaVLayS
import Derived.Test.YtcgejfmbhpmjfaaVPair
import Derived.Sort.Grow
import Derived.Deep.Draws
set_option linter.unusedSimpArgs false
set_option linter.unusedVariables false
set_option maxRecDepth 20000
namespace Go.Proofs.Ytcgejfmbhpmjfaa
open Go Go.V Go.Sort
-- 41: pith/runs.order
-- 43: slices.SortFunc[[]pith/api.Pair,pith/api.Pair]
-- 3: int
-- 24: pith/api.Pair
-- 22: []api.Pair

theorem ext_append {H H' : Heap} (h : Ext H H') : H' = H ++ H'.extract H.size H'.size := by
  have hs := h.size
  apply Array.ext_getElem?
  intro i
  rw [Array.getElem?_append]
  by_cases hi : i < H.size
  · rw [if_pos hi, h.get i hi]
  · rw [if_neg hi, Array.getElem?_extract]
    by_cases h2 : i < H'.size
    · rw [if_pos (by omega), show H.size + (i - H.size) = i by omega]
    · rw [if_neg (by omega), Array.getElem?_eq_none (by omega)]
theorem order_grows (p q : Pr) (W : World) : Calls Try.prog 41 #[pv p, pv q] W fun e w' => e = .returned (.int .i64 (ordI p q)) ∧ ∃ k os, w' = grow (W.drewN k) os := by
  refine (F41 p q W.heap W rfl).mono ?_
  rintro e w' ⟨v, rfl, s, rfl, hx⟩
  refine ⟨rfl, w'.drawn - W.drawn, w'.heap.extract W.heap.size w'.heap.size, ?_⟩
  have h1 := ext_append hx
  have h2 := s.os
  have h3 := s.tape
  have h4 := s.output
  have h5 := s.drawn
  cases w'
  cases W
  simp only [grow, World.drewN] at *
  subst h2
  subst h3
  subst h4
  rw [← h1]
  congr 1
  omega

def encP (p : Pr) : List Value := [.int .i64 p.1, .int .i64 p.2]
theorem ltO (p q : Pr) : ltOf ordI p q = ltP p q := ord_lt p q
theorem swoP : SWO (ltOf ordI) where
  irrefl x := by rw [ltO]; simp [ltP]
  trans x y z h1 h2 := by rw [ltO] at *; simp only [ltP, decide_eq_true_eq] at *; omega
  ntrans x y z h1 h2 := by rw [ltO] at *; simp only [ltP, decide_eq_false_iff_not] at *; omega
theorem totP (x y : Pr) (h1 : ltOf ordI x y = false) (h2 : ltOf ordI y x = false) : x = y := by
  rw [ltO] at *
  simp only [ltP, decide_eq_false_iff_not] at *
  exact Prod.ext (by omega) (by omega)
/-- A list of arcs, sorted. -/
def srt (ps : List Pr) : List Pr := ps.mergeSort fun x y => !ltP y x
theorem srt_len (ps : List Pr) : (srt ps).length = ps.length := List.length_mergeSort _
theorem flat_get (qs : List Pr) {i : Nat} (h : i < qs.length * 2) : (cp qs)[i]? = some ((flatK encP 2 qs.toArray)[i]!) := by
  rw [get_flatK _ _ _ _ (by simpa using h)]
  have hq : i / 2 < qs.length := by omega
  obtain ⟨g1, g2⟩ := cp_get hq
  have hd : qs.toArray[i / 2]! = qs.getD (i / 2) (0, 0) := by
    rw [getElem!_pos _ _ (by simpa using hq)]
    simp [List.getD_eq_getElem?_getD, List.getElem?_eq_getElem hq]
  rw [hd]
  rcases Nat.mod_two_eq_zero_or_one i with h0 | h1
  · rw [show i / 2 * 2 = i by omega] at g1
    rw [g1, h0]
    rfl
  · rw [show i / 2 * 2 + 1 = i by omega] at g2
    rw [g2, h1]
    rfl

theorem F43 (v : Value) (ps : List Pr) (H : Heap) (B : Nat) (hv : Own H B 24 2 v (cp ps)) (hl : ps.length ≤ 8796093020000) :
    Fun Try.prog 43 #[v, .func (.func 41) #[] #[]] H (fun r H' => r = .tuple #[] ∧ Own H' B 24 2 v (cp (srt ps)) ∧ But (blk v) H H') := by
  intro w hw
  subst hw
  rcases hv with ⟨rfl, hn⟩ | ⟨g, len, cap, c, rfl, hB, hg, hlc, hcm, hcs, hlen, ht⟩
  · have : ps = [] := List.eq_nil_of_length_eq_zero (by have := cp_len ps; rw [hn] at this; simp at this; omega)
    subst this
    have h := AnyF.slices_SortFunc_none (P := Try.prog) (ρ := Try.sortP_ren) Try.sortP none 0 (.func (.func 41) #[] #[]) w
    change Calls Try.prog 43 _ _ _ at h
    refine h.mono ?_
    rintro e w' ⟨rfl, rfl⟩
    exact ⟨_, rfl, Same.refl _, rfl, .inl ⟨rfl, by simp [srt, cp]⟩, But.refl _ _⟩
  · have hln : ps.length = len := by rw [cp_len] at hlen; omega
    subst hln
    have hgs : g < w.heap.size := (Array.getElem?_eq_some_iff.1 hg).1
    have eg : ∀ args w, (callFunc 41 args).run Try.prog w = .ok (.enter 41 args) w := enters_of Try.func41 (by kernel_rfl) rfl
    have hcmp : CmpLays Try.prog 41 #[] encP 2 ordI g 0 ps.toArray.size w := fun _ _ _ _ x y => order_grows x y _
    have hH : HoldsK encP 2 w g 0 ps.toArray := by
      intro j hj
      have hj' : j < ps.length * 2 := by simpa using hj
      have h1 := flat_get ps hj'
      rw [← ht, List.getElem?_take, if_pos hj'] at h1
      refine ⟨?_, ?_⟩
      · simp only [World.cell?, hg, Nat.zero_add, id]
        simpa using h1
      · simp [World.frozen?, hg]
    have h := AnyQ.slices_SortFunc_total (P := Try.prog) (ρ := Try.sortP_ren) Try.sortP 2 Try.isAgg24 Try.sizeOf24 encP (fun _ => rfl) (fun x v hv => by simp [encP] at hv; rcases hv with rfl | rfl <;> rfl) ordI swoP 41 #[] g 0 cap ps.toArray w eg hcmp hH hgs (by simp; omega) totP
    change Calls Try.prog 43 _ _ _ at h
    rw [List.size_toArray] at h
    refine h.mono ?_
    rintro e w' ⟨rfl, n, os, rfl⟩
    have hd : (ps.mergeSort fun x y => !ltOf ordI y x) = srt ps := by
      unfold srt
      congr 1
      funext x y
      rw [ltO]
    simp only [hd]
    have hh : (sortWorldK encP 2 w g 0 n (srt ps).toArray os).heap = w.heap.modify g (onCells (putCells id 0 (flatK encP 2 (srt ps).toArray))) ++ os := rfl
    have hsz : (putCells id 0 (flatK encP 2 (srt ps).toArray) c).size = c.size := by simp [putCells]
    refine ⟨_, rfl, ⟨rfl, rfl, rfl, Nat.le_add_right _ _⟩, rfl, .inr ⟨g, ps.length, cap, putCells id 0 (flatK encP 2 (srt ps).toArray) c, rfl, hB, ?_, hlc, hcm, by rw [hsz]; exact hcs, by rw [cp_len, srt_len], ?_⟩, ?_, ?_⟩
    · rw [hh, Array.getElem?_append_left (by simpa using hgs), Array.getElem?_modify, if_pos rfl, hg]
      rfl
    · have hmul : ps.length * 2 ≤ cap * 2 := Nat.mul_le_mul_right _ hlc
      apply List.ext_getElem?
      intro i
      rw [List.getElem?_take]
      by_cases hi : i < ps.length * 2
      · rw [if_pos hi, Array.getElem?_toList, flat_get (srt ps) (by rw [srt_len]; exact hi)]
        have hc : i < c.size := by omega
        simp only [putCells, Array.getElem?_mapIdx, Array.getElem?_eq_getElem hc, Option.map_some, size_flatK, List.size_toArray, srt_len]
        rw [if_pos (by omega)]
        simp
      · rw [if_neg hi, List.getElem?_eq_none (by rw [cp_len, srt_len]; omega)]
    · rw [hh]; simp
    · intro b hb hne
      rw [hh, Array.getElem?_append_left (by simpa using hb), Array.getElem?_modify, if_neg (fun e => hne (by rw [← e]; rfl))]
end Go.Proofs.Ytcgejfmbhpmjfaa
