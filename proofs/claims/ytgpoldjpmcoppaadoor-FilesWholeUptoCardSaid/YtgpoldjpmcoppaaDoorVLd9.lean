/- A Load tells the same where the file is the same. -/
import Derived.Test.YtgpoldjpmcoppaaDoorVPubR
import Derived.Test.YtgpoldjpmcoppaaDoorVSet9
import Derived.Test.YtgpoldjpmcoppaaDoorVFsI
import Derived.Test.YtgpoldjpmcoppaaDoorVFsL
set_option linter.unusedSimpArgs false
set_option linter.unusedVariables false
set_option maxRecDepth 20000
namespace Go.Proofs.YtgpoldjpmcoppaaDoor
open Go Go.V
theorem nextF_congr {s t : St} {x : RdS} (h : ∀ a k, readS t x.name a k = readS s x.name a k) : nextF t x = nextF s x := by
  unfold nextF
  rw [h]
theorem endF_congr {s t : St} {x : RdS} (h : ∀ a k, readS t x.name a k = readS s x.name a k) (k : Int) (p : List Int) : endF t x k p = endF s x k p := by
  unfold endF
  rw [h]
theorem nextR_congr {s t : St} {x : RdS} (h : ∀ a k, readS t x.name a k = readS s x.name a k) : nextR t x = nextR s x := by
  have e := nextF_congr h
  have hn := (nextF_keeps s x).2.1
  unfold nextR
  rw [e]
  simp only
  rw [endF_congr (x := (nextF s x).1) (by rw [hn]; exact h)]
theorem nextR_name (s : St) (x : RdS) : (nextR s x).1.name = x.name := by
  have hn := (nextF_keeps s x).2.1
  unfold nextR
  split
  · rfl
  · simp only
    split
    · exact hn
    · exact hn
theorem Rest.congr {s t : St} {n : Nm} (h : ∀ a k, readS t n a k = readS s n a k) : ∀ {x : RdS} {l : List (List Int)} {e : Int}, Rest s x l e → x.name = n → Rest t x l e := by
  intro x l e hr
  induction hr with
  | @err x h1 =>
    intro hx
    have e := nextR_congr (s := s) (t := t) (x := x) (by rw [hx]; exact h)
    have := @Rest.err t x (by rw [e]; exact h1)
    rw [e] at this
    exact this
  | @done x h1 h2 =>
    intro hx
    have e := nextR_congr (s := s) (t := t) (x := x) (by rw [hx]; exact h)
    exact Rest.done (by rw [e]; exact h1) (by rw [e]; exact h2)
  | @more x l e0 h1 h2 h3 ih =>
    intro hx
    have e := nextR_congr (s := s) (t := t) (x := x) (by rw [hx]; exact h)
    have := @Rest.more t x l e0 (by rw [e]; exact h1) (by rw [e]; exact h2) (by rw [e]; exact ih (by rw [nextR_name]; exact hx))
    rw [e] at this
    exact this
theorem open_congr {s t : St} {n : Nm} (h : ∀ a k, readS t n a k = readS s n a k) : openF t n = openF s n := by
  unfold openF
  rw [nextF_congr (s := s) (t := t) (x := newR n) h]
theorem open_name (s : St) (n : Nm) : (openF s n).1.name = n := by
  have hn := (nextF_keeps s (newR n)).2.1
  unfold openF
  simp only
  split
  · exact hn
  · split
    · exact hn
    · exact hn
theorem Loads.congr {s t : St} {n : Nm} (h : ∀ a k, readS t n a k = readS s n a k) {hd : List Int} {l : List (List Int)} {e : Int} (hl : Loads s n hd l e) : Loads t n hd l e := by
  have ho := open_congr h
  unfold Loads at hl ⊢
  rw [ho]
  split
  · rename_i c; rw [if_pos c] at hl; exact hl
  · rename_i c
    rw [if_neg c] at hl
    obtain ⟨l', e', h1, h2, h3⟩ := hl
    exact ⟨l', e', h1.congr h (open_name s n), h2, h3⟩
theorem Loads.unique {s : St} {n : Nm} {hd hd' : List Int} {l l' : List (List Int)} {e e' : Int} (h : Loads s n hd l e) (k : Loads s n hd' l' e') : hd = hd' ∧ l = l' ∧ e = e' := by
  unfold Loads at h k
  split at h
  · rename_i c
    rw [if_pos c] at k
    exact ⟨by rw [h.1, k.1], by rw [h.2.1, k.2.1], by rw [h.2.2, k.2.2]⟩
  · rename_i c
    rw [if_neg c] at k
    obtain ⟨l1, e1, h1, rfl, h3⟩ := h
    obtain ⟨l2, e2, k1, rfl, k3⟩ := k
    obtain ⟨rfl, rfl⟩ := h1.unique k1
    split at h3
    · rename_i c2
      rw [if_pos c2] at k3
      exact ⟨by rw [h3.1, k3.1], by rw [h3.2, k3.2], rfl⟩
    · rename_i c2
      rw [if_neg c2] at k3
      exact ⟨by rw [h3.1, k3.1], by rw [h3.2, k3.2], rfl⟩
/-- What is loaded is bytes, payloads that may be. -/
theorem Rest.byts {s : St} (ok : Ok s) : ∀ {x : RdS} {l : List (List Int)} {e : Int}, Rest s x l e → ∀ p ∈ l, Byt p := by
  intro x l e hr
  induction hr with
  | err h1 => intro p hp; cases hp
  | done h1 h2 => intro p hp; cases hp
  | @more x l e0 h1 h2 h3 ih =>
    intro p hp
    rcases List.mem_cons.1 hp with rfl | hp
    · have hb := (nextF_at ok x).2.2.2
      unfold nextR at h2 ⊢
      split
      · intro c hc; cases hc
      · simp only
        split
        · exact hb
        · intro c hc; cases hc
    · exact ih p hp
theorem Loads.byts {s : St} (ok : Ok s) {n : Nm} {hd : List Int} {l : List (List Int)} {e : Int} (h : Loads s n hd l e) : Byt hd ∧ ∀ p ∈ l, Byt p := by
  have hb := (nextF_at ok (newR n)).2.2.2
  have bn : Byt [] := fun c hc => by cases hc
  unfold Loads at h
  split at h
  · exact ⟨by rw [h.1]; exact bn, by rw [h.2.1]; intro p hp; cases hp⟩
  · obtain ⟨l1, e1, h1, rfl, h3⟩ := h
    split at h3
    · exact ⟨by rw [h3.1]; exact bn, by rw [h3.2]; intro p hp; cases hp⟩
    · refine ⟨?_, by rw [h3.2]; exact h1.byts ok⟩
      rw [h3.1]
      unfold openF
      simp only
      split
      · exact bn
      · split
        · exact bn
        · exact hb
theorem Left.read {s s' : St} (ok : Ok s) (ho : s'.off = s.off) (h : Left s s') (n : Nm) (a k : Int) : readS s' n a k = readS s n a k := by
  have hf : findS s' n = findS s n := by unfold findS beginS; rw [h.now, ho]
  unfold readS
  rw [hf]
  split
  · rename_i x e he
    obtain ⟨hx, _, _⟩ := find_now he
    rw [(h.dat x (ok.nowH _ _ hx)).1]
  · rfl
theorem Left.lasts {s s' : St} (ok : Ok s) (h : Left s s') (n : Nm) : V.lastD s' n = V.lastD s n := by
  unfold V.lastD
  rw [h.last]
  cases hx : s.last n with
  | none => rfl
  | some x =>
    have := h.dat x (ok.lastH _ _ hx)
    simp only
    rw [this.1, this.2]
theorem sorted_unique : ∀ (l r : List Nm), l.Pairwise (fun a b => a.data.toList < b.data.toList) → r.Pairwise (fun a b => a.data.toList < b.data.toList) → (∀ n, n ∈ l ↔ n ∈ r) → l = r
  | [], [], _, _, _ => rfl
  | [], b :: r, _, _, h => absurd ((h b).2 List.mem_cons_self) (by simp)
  | a :: l, [], _, _, h => absurd ((h a).1 List.mem_cons_self) (by simp)
  | a :: l, b :: r, hl, hr, h => by
    have hl' := List.pairwise_cons.1 hl
    have hr' := List.pairwise_cons.1 hr
    have hab : a = b := by
      rcases List.mem_cons.1 ((h a).1 List.mem_cons_self) with e | e
      · exact e
      · rcases List.mem_cons.1 ((h b).2 List.mem_cons_self) with e2 | e2
        · exact e2.symm
        · exact absurd (List.lt_trans (hr'.1 a e) (hl'.1 b e2)) (List.lt_irrefl _)
    subst hab
    rw [sorted_unique l r hl'.2 hr'.2 fun n => ⟨fun hn => ?_, fun hn => ?_⟩]
    · rcases List.mem_cons.1 ((h n).1 (List.mem_cons_of_mem _ hn)) with e | e
      · subst e; exact absurd (hl'.1 n hn) (List.lt_irrefl _)
      · exact e
    · rcases List.mem_cons.1 ((h n).2 (List.mem_cons_of_mem _ hn)) with e | e
      · subst e; exact absurd (hr'.1 n hn) (List.lt_irrefl _)
      · exact e
theorem names_unique {D : Dir} {ns ms : List Nm} (h : IsNames D ns) (k : IsNames D ms) : ns = ms :=
  sorted_unique ns ms h.1 k.1 fun n => by rw [h.2 n, k.2 n]
end Go.Proofs.YtgpoldjpmcoppaaDoor
