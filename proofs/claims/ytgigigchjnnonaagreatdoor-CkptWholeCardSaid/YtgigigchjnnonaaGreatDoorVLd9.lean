/- A Load tells the same where the file is the same. -/
import Derived.Test.YtgigigchjnnonaaGreatDoorM2
import Derived.Test.YtgigigchjnnonaaGreatDoorVSet9
import Derived.Test.YtgigigchjnnonaaGreatDoorVFsI
import Derived.Test.YtgigigchjnnonaaGreatDoorVFsL
set_option linter.unusedSimpArgs false
set_option linter.unusedVariables false
set_option maxRecDepth 20000
namespace Go.Proofs.YtgigigchjnnonaaGreatDoor
open Go Go.V
theorem nextF_congr {s t : St} {x : RdS} (h : ∀ a k, readS t x.name a k = readS s x.name a k) : nextF t x = nextF s x := by
  unfold nextF
  rw [h]
theorem endF_congr {s t : St} {x : RdS} (h : ∀ a k, readS t x.name a k = readS s x.name a k) (k : Int) (p : List Int) : endF t x k p = endF s x k p := by
  unfold endF
  rw [h]
theorem nextR_congr {s t : St} {x : RdS} (h : ∀ a k, readS t x.name a k = readS s x.name a k) : nextR t x = nextR s x := by
  have e := nextF_congr h
  have hn := (nextF_keeps s x).2.1
  unfold nextR
  rw [e]
  simp only
  rw [endF_congr (x := (nextF s x).1) (by rw [hn]; exact h)]
theorem nextR_name (s : St) (x : RdS) : (nextR s x).1.name = x.name := by
  have hn := (nextF_keeps s x).2.1
  unfold nextR
  split
  · rfl
  · simp only
    split
    · exact hn
    · exact hn
theorem Rest.congr {s t : St} {n : Nm} (h : ∀ a k, readS t n a k = readS s n a k) : ∀ {x : RdS} {l : List (List Int)} {e : Int}, Rest s x l e → x.name = n → Rest t x l e := by
  intro x l e hr
  induction hr with
  | @err x h1 =>
    intro hx
    have e := nextR_congr (s := s) (t := t) (x := x) (by rw [hx]; exact h)
    have := @Rest.err t x (by rw [e]; exact h1)
    rw [e] at this
    exact this
  | @done x h1 h2 =>
    intro hx
    have e := nextR_congr (s := s) (t := t) (x := x) (by rw [hx]; exact h)
    exact Rest.done (by rw [e]; exact h1) (by rw [e]; exact h2)
  | @more x l e0 h1 h2 h3 ih =>
    intro hx
    have e := nextR_congr (s := s) (t := t) (x := x) (by rw [hx]; exact h)
    have := @Rest.more t x l e0 (by rw [e]; exact h1) (by rw [e]; exact h2) (by rw [e]; exact ih (by rw [nextR_name]; exact hx))
    rw [e] at this
    exact this
theorem open_congr {s t : St} {n : Nm} (h : ∀ a k, readS t n a k = readS s n a k) : openF t n = openF s n := by
  unfold openF
  rw [nextF_congr (s := s) (t := t) (x := newR n) h]
theorem open_name (s : St) (n : Nm) : (openF s n).1.name = n := by
  have hn := (nextF_keeps s (newR n)).2.1
  unfold openF
  simp only
  split
  · exact hn
  · split
    · exact hn
    · exact hn
theorem Loads.congr {s t : St} {n : Nm} (h : ∀ a k, readS t n a k = readS s n a k) {hd : List Int} {l : List (List Int)} {e : Int} (hl : Loads s n hd l e) : Loads t n hd l e := by
  have ho := open_congr h
  unfold Loads at hl ⊢
  rw [ho]
  split
  · rename_i c; rw [if_pos c] at hl; exact hl
  · rename_i c
    rw [if_neg c] at hl
    obtain ⟨l', e', h1, h2, h3⟩ := hl
    exact ⟨l', e', h1.congr h (open_name s n), h2, h3⟩
theorem Loads.unique {s : St} {n : Nm} {hd hd' : List Int} {l l' : List (List Int)} {e e' : Int} (h : Loads s n hd l e) (k : Loads s n hd' l' e') : hd = hd' ∧ l = l' ∧ e = e' := by
  unfold Loads at h k
  split at h
  · rename_i c
    rw [if_pos c] at k
    exact ⟨by rw [h.1, k.1], by rw [h.2.1, k.2.1], by rw [h.2.2, k.2.2]⟩
  · rename_i c
    rw [if_neg c] at k
    obtain ⟨l1, e1, h1, rfl, h3⟩ := h
    obtain ⟨l2, e2, k1, rfl, k3⟩ := k
    obtain ⟨rfl, rfl⟩ := h1.unique k1
    split at h3
    · rename_i c2
      rw [if_pos c2] at k3
      exact ⟨by rw [h3.1, k3.1], by rw [h3.2, k3.2], rfl⟩
    · rename_i c2
      rw [if_neg c2] at k3
      exact ⟨by rw [h3.1, k3.1], by rw [h3.2, k3.2], rfl⟩
theorem Left.read {s s' : St} (ok : Ok s) (ho : s'.off = s.off) (h : Left s s') (n : Nm) (a k : Int) : readS s' n a k = readS s n a k := by
  have hf : findS s' n = findS s n := by unfold findS beginS; rw [h.now, ho]
  unfold readS
  rw [hf]
  split
  · rename_i x e he
    obtain ⟨hx, _, _⟩ := find_now he
    rw [(h.dat x (ok.nowH _ _ hx)).1]
  · rfl
theorem Left.lasts {s s' : St} (ok : Ok s) (h : Left s s') (n : Nm) : V.lastD s' n = V.lastD s n := by
  unfold V.lastD
  rw [h.last]
  cases hx : s.last n with
  | none => rfl
  | some x =>
    have := h.dat x (ok.lastH _ _ hx)
    simp only
    rw [this.1, this.2]
end Go.Proofs.YtgigigchjnnonaaGreatDoor
