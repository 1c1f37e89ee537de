/- What always holds stays so. -/
import Derived.Test.YtgigigchjnnonaaGreatDoorVFsP
set_option linter.unusedSimpArgs false
set_option linter.unusedVariables false
set_option maxRecDepth 20000
namespace Go.V
open Go
theorem count_form (t : St) (h : 0 ≤ t.fuse ∧ t.fuse < 9223372036854775808) : ∃ f o, (countS t).1 = { t with ops := t.ops + 1, fuse := f, off := o } ∧ 0 ≤ f ∧ f < 9223372036854775808 := by
  unfold countS
  split
  · split
    · exact ⟨0, true, rfl, by omega, by omega⟩
    · exact ⟨t.fuse - 1, t.off, rfl, by omega, by omega⟩
  · exact ⟨t.fuse, t.off, rfl, h.1, h.2⟩
theorem count_ok {s : St} (ok : Ok s) : Ok (countS s).1 := by
  obtain ⟨f, o, e, h1, h2⟩ := count_form s ok.fuse
  rw [e]
  exact ⟨ok.room, ok.nowH, ok.lastH, ok.pendH, ok.nowI, ok.lastI, ok.nowN, ok.lastN, ok.pendN, ok.nd, ok.syn, ok.byt, ok.sum, ⟨h1, h2⟩, by have := ok.hlen; show (s.held.length : Int) ≤ s.ops + 1; omega, by have := ok.plen; show (s.pend.length : Int) ≤ s.ops + 1; omega⟩
theorem moveD_held {D : Dir} {x : Nat} {n : Nm} {hs : List Nat} (hD : ∀ m f, D m = some f → f ∈ hs) (hx : x ∈ hs) : ∀ m f, moveD D x n m = some f → f ∈ hs := by
  intro m f h
  unfold moveD at h
  split at h
  · injection h with h; exact h ▸ hx
  · split at h
    · cases h
    · exact hD m f h
theorem moveD_inj {D : Dir} {x : Nat} {n : Nm} (hI : ∀ n m f, D n = some f → D m = some f → n = m) : ∀ a m f, moveD D x n a = some f → moveD D x n m = some f → a = m := by
  intro a m f h1 h2
  unfold moveD at h1 h2
  split at h1
  · rename_i c1
    split at h2
    · rename_i c2; rw [c1.1, c2.1]
    · split at h2
      · cases h2
      · rename_i c3
        injection h1 with h1
        exact absurd (h1 ▸ h2) c3
  · split at h1
    · cases h1
    · rename_i c1
      split at h2
      · injection h2 with h2
        exact absurd (h2 ▸ h1) c1
      · split at h2
        · cases h2
        · exact hI a m f h1 h2
theorem moveD_nm {D : Dir} {x : Nat} {n : Nm} (hn : n = emptyNm ∨ isNm n = true) (hN : ∀ m f, D m = some f → isNm m = true) : ∀ m f, moveD D x n m = some f → isNm m = true := by
  intro m f h
  unfold moveD at h
  split at h
  · rename_i c
    rcases hn with hn | hn
    · exact absurd hn c.2
    · rw [c.1]; exact hn
  · split at h
    · cases h
    · exact hN m f h
/-- Ok, but for the numbers of operations. -/
structure Ok' (s : St) (k : Int) : Prop where
  room : 0 ≤ s.room ∧ s.room ≤ 2147483647
  nowH : ∀ n f, s.now n = some f → f ∈ s.held
  lastH : ∀ n f, s.last n = some f → f ∈ s.held
  pendH : ∀ p ∈ s.pend, p.1 ∈ s.held
  nowI : ∀ n m f, s.now n = some f → s.now m = some f → n = m
  lastI : ∀ n m f, s.last n = some f → s.last m = some f → n = m
  nowN : ∀ n f, s.now n = some f → isNm n = true
  lastN : ∀ n f, s.last n = some f → isNm n = true
  pendN : ∀ p ∈ s.pend, p.2 = emptyNm ∨ isNm p.2 = true
  nd : s.held.Nodup
  syn : ∀ f ∈ s.held, s.syn f ≤ (s.dat f).length
  byt : ∀ f ∈ s.held, Byt (s.dat f)
  sum : heldS s ≤ s.room
  fuse : 0 ≤ s.fuse ∧ s.fuse < 9223372036854775808
  hlen : (s.held.length : Int) ≤ s.ops + k
  plen : (s.pend.length : Int) ≤ s.ops
theorem Ok.ok' {s : St} (ok : Ok s) : Ok' s 0 := ⟨ok.room, ok.nowH, ok.lastH, ok.pendH, ok.nowI, ok.lastI, ok.nowN, ok.lastN, ok.pendN, ok.nd, ok.syn, ok.byt, ok.sum, ok.fuse, by have := ok.hlen; omega, ok.plen⟩
theorem pend_ok {s : St} {k : Int} (ok : Ok' s k) (hk : k ≤ 1) {x : Nat} (hx : x ∈ s.held) {n : Nm} (hn : n = emptyNm ∨ isNm n = true) : Ok (pendS s x n).1 := by
  unfold pendS
  obtain ⟨f, o, e, h1, h2⟩ := count_form { s with now := moveD s.now x n, pend := s.pend ++ [(x, n)] } ok.fuse
  rw [e]
  refine ⟨ok.room, moveD_held ok.nowH hx, ok.lastH, fun p hp => ?_, moveD_inj ok.nowI, ok.lastI, moveD_nm hn ok.nowN, ok.lastN, fun p hp => ?_, ok.nd, ok.syn, ok.byt, ok.sum, ⟨h1, h2⟩, by have := ok.hlen; show (s.held.length : Int) ≤ s.ops + 1; omega, by have := ok.plen; show (((s.pend ++ [(x, n)]).length : Nat) : Int) ≤ s.ops + 1; simp; omega⟩
  · rcases List.mem_append.1 hp with hp | hp
    · exact ok.pendH p hp
    · rw [List.mem_singleton.1 hp]; exact hx
  · rcases List.mem_append.1 hp with hp | hp
    · exact ok.pendN p hp
    · rw [List.mem_singleton.1 hp]; exact hn
theorem add_ok {s : St} (ok : Ok s) {x : Nat} (hx : x ∉ s.held) : Ok' (addS s x) 1 := by
  have hne : ∀ f ∈ s.held, f ≠ x := fun f hf e => hx (e ▸ hf)
  have hmem : ∀ f, f ∈ s.held ++ [x] ↔ f ∈ s.held ∨ f = x := fun f => by simp
  refine ⟨ok.room, fun n f h => ?_, fun n f h => ?_, fun p hp => ?_, ok.nowI, ok.lastI, ok.nowN, ok.lastN, ok.pendN, ?_, fun f hf => ?_, fun f hf => ?_, ?_, ok.fuse, ?_, ok.plen⟩
  · exact (hmem f).2 (.inl (ok.nowH n f h))
  · exact (hmem f).2 (.inl (ok.lastH n f h))
  · exact (hmem _).2 (.inl (ok.pendH p hp))
  · show (s.held ++ [x]).Nodup
    rw [List.nodup_append]
    exact ⟨ok.nd, by simp, fun a ha b hb => by rw [List.mem_singleton.1 hb]; exact hne a ha⟩
  · rcases (hmem f).1 hf with hf | rfl
    · simp only [addS, setF, if_neg (hne f hf)]; exact ok.syn f hf
    · simp [addS, setF]
  · rcases (hmem f).1 hf with hf | rfl
    · simp only [addS, setF, if_neg (hne f hf)]; exact ok.byt f hf
    · simp [addS, setF, Byt]
  · have : heldS (addS s x) = heldS s := by
      unfold heldS
      simp only [addS, List.map_append, List.sum_append, List.map_cons, List.map_nil, List.sum_cons, List.sum_nil, setF, if_true, List.length_nil]
      have : (s.held.map fun f => (((if f = x then [] else s.dat f) : List Int).length : Int)) = s.held.map fun f => ((s.dat f).length : Int) := List.map_congr_left fun f hf => by rw [if_neg (hne f hf)]
      rw [this]; simp
    rw [this]; exact ok.sum
  · have := ok.hlen
    show (((s.held ++ [x]).length : Nat) : Int) ≤ s.ops + 1
    simp; omega
theorem create_ok {s : St} (ok : Ok s) (n : Nm) {x : Nat} (hx : x ∉ s.held) : Ok (createS s n x).1 := by
  unfold createS
  split
  · exact ok
  · rename_i h
    split
    · exact ok
    · refine pend_ok (add_ok ok hx) (by omega) (by simp [addS]) (.inr ?_)
      have : beginS s [n] = 0 := by simpa using h
      unfold beginS at this
      cases hn : isNm n with
      | true => rfl
      | false => simp [hn] at this
theorem sum_set {s : St} (ok : Ok s) {x : Nat} (hx : x ∈ s.held) (d : List Int) : heldS { s with dat := setF s.dat x d } = heldS s - (s.dat x).length + d.length := by
  unfold heldS
  have hnd := ok.nd
  revert hx
  generalize s.held = hs at hnd
  induction hs with
  | nil => intro h; cases h
  | cons y l ih =>
    intro hx
    simp only [List.map_cons, List.sum_cons, setF]
    have hn := List.nodup_cons.1 hnd
    by_cases hy : y = x
    · subst hy
      rw [if_pos rfl]
      have : (l.map fun f => (((if f = y then d else s.dat f) : List Int).length : Int)) = l.map fun f => ((s.dat f).length : Int) := List.map_congr_left fun f hf => by
        have hfy : f ≠ y := fun e => hn.1 (by rw [← e]; exact hf)
        rw [if_neg hfy]
      rw [this]; omega
    · rw [if_neg hy]
      have hx2 : x ∈ l := by
        rcases List.mem_cons.1 hx with e | e
        · exact absurd e.symm hy
        · exact e
      have := ih hn.2 hx2
      simp only [setF] at this
      omega
theorem find_now {s : St} {n : Nm} {x : Nat} {e : Int} (h : findS s n = (some x, e)) : s.now n = some x ∧ e = 0 ∧ beginS s [n] = 0 := by
  unfold findS at h
  split at h
  · cases h
  · rename_i h0
    split at h
    · cases h
    · rename_i y hy
      injection h with h1 h2
      injection h1 with h1
      subst h1
      exact ⟨hy, h2.symm, by simpa using h0⟩
theorem append_ok {s : St} (ok : Ok s) (n : Nm) {b : List Int} (hb : Byt b) : Ok (appendS s n b).1 := by
  unfold appendS
  split
  · rename_i x e hf
    obtain ⟨hx, _, _⟩ := find_now hf
    have hxh := ok.nowH _ _ hx
    split
    · exact ok
    · rename_i hr
      refine count_ok ⟨ok.room, ok.nowH, ok.lastH, ok.pendH, ok.nowI, ok.lastI, ok.nowN, ok.lastN, ok.pendN, ok.nd, fun f hf => ?_, fun f hf => ?_, ?_, ok.fuse, ok.hlen, ok.plen⟩
      · simp only [setF]
        split
        · rename_i e; subst e; have := ok.syn f hf; simp; omega
        · exact ok.syn f hf
      · simp only [setF]
        split
        · rename_i e; subst e
          intro c hc
          rcases List.mem_append.1 hc with hc | hc
          · exact ok.byt f hf c hc
          · exact hb c hc
        · exact ok.byt f hf
      · rw [sum_set ok hxh]; have := ok.sum; simp only [List.length_append]; show _ ≤ s.room; omega
  · exact ok
theorem sync_ok {s : St} (ok : Ok s) (n : Nm) : Ok (syncS s n).1 := by
  unfold syncS
  split
  · rename_i x e hf
    split
    · obtain ⟨f, o, e, h1, h2⟩ := count_form s ok.fuse
      have k := count_ok ok
      rw [e] at k ⊢
      refine ⟨k.room, k.nowH, k.lastH, k.pendH, k.nowI, k.lastI, k.nowN, k.lastN, k.pendN, k.nd, fun f hf => ?_, k.byt, k.sum, k.fuse, k.hlen, k.plen⟩
      simp only [setF]
      split
      · rename_i e; subst e; exact Nat.le_refl _
      · exact ok.syn f hf
    · exact count_ok ok
  · exact ok
theorem begin_all {s : St} {ns : List Nm} (h : beginS s ns = 0) : (∀ n ∈ ns, isNm n = true) ∧ s.off = false := by
  unfold beginS at h
  split at h
  · rename_i ha
    split at h
    · cases h
    · rename_i ho; exact ⟨List.all_eq_true.1 ha, by simpa using ho⟩
  · cases h
theorem rename_ok {s : St} (ok : Ok s) (n m : Nm) : Ok (renameS s n m).1 := by
  unfold renameS
  split
  · exact ok
  · rename_i h
    split
    · exact ok
    · rename_i x hx
      exact pend_ok ok.ok' (by omega) (ok.nowH _ _ hx) (.inr ((begin_all (by simpa using h)).1 m (by simp)))
theorem sum_filter_le (l : List Nat) (g : Nat → Int) (hg : ∀ x, 0 ≤ g x) (p : Nat → Bool) : ((l.filter p).map g).sum ≤ (l.map g).sum := by
  induction l with
  | nil => simp
  | cons x l ih =>
    rw [List.filter_cons]
    have := hg x
    split
    · simp only [List.map_cons, List.sum_cons]; omega
    · simp only [List.map_cons, List.sum_cons]; omega
theorem settle_ok {s : St} (ok : Ok s) : Ok (settleS s) := by
  have hm : ∀ f, f ∈ (settleS s).held ↔ f ∈ s.held ∧ ∃ n, s.now n = some f := fun f => by
    unfold settleS; simp only [List.mem_filter, decide_eq_true_eq]
  have h1 : ∀ n f, s.now n = some f → f ∈ (settleS s).held := fun n f h => (hm f).2 ⟨ok.nowH n f h, n, h⟩
  have hnp : ∀ p : Nat × Nm, ¬ p ∈ (settleS s).pend := fun p hp => by simp [settleS] at hp
  refine ⟨ok.room, h1, h1, fun p hp => absurd hp (hnp p), ok.nowI, ok.nowI, ok.nowN, ok.nowN, fun p hp => absurd hp (hnp p), ok.nd.filter _, fun f hf => ok.syn f ((hm f).1 hf).1, fun f hf => ok.byt f ((hm f).1 hf).1, ?_, ok.fuse, ?_, ?_⟩
  · exact Int.le_trans (sum_filter_le s.held (fun f => ((s.dat f).length : Int)) (fun x => by omega) _) ok.sum
  · have := ok.hlen
    have h2 : (settleS s).held.length ≤ s.held.length := List.length_filter_le _ _
    show (((settleS s).held.length : Nat) : Int) ≤ s.ops
    omega
  · have := ok.plen
    show ((([] : List (Nat × Nm)).length : Nat) : Int) ≤ s.ops
    simp; omega
theorem syncDir_ok {s : St} (ok : Ok s) : Ok (syncDirS s).1 := by
  unfold syncDirS
  split
  · exact ok
  · split
    · exact settle_ok (count_ok ok)
    · exact count_ok ok
theorem arm_ok {s : St} (ok : Ok s) {k : Int} (hk : k < 9223372036854775808) : Ok (armS s k).1 := by
  unfold armS
  split
  · exact ok
  · split
    · exact ok
    · exact ⟨ok.room, ok.nowH, ok.lastH, ok.pendH, ok.nowI, ok.lastI, ok.nowN, ok.lastN, ok.pendN, ok.nd, ok.syn, ok.byt, ok.sum, ⟨by show 0 ≤ k; omega, hk⟩, ok.hlen, ok.plen⟩
theorem cut_ok {s : St} (ok : Ok s) {x : Nat} (hx : x ∈ s.held) (m : Nat) : Ok (cutS s x m) := by
  have hsy := ok.syn x hx
  have hc : cutLen s x m ≤ (s.dat x).length := by unfold cutLen; omega
  refine ⟨ok.room, ok.nowH, ok.lastH, ok.pendH, ok.nowI, ok.lastI, ok.nowN, ok.lastN, ok.pendN, ok.nd, fun f hf => ?_, fun f hf => ?_, ?_, ok.fuse, ok.hlen, ok.plen⟩
  · simp only [cutS, setF]
    split
    · rename_i e; subst e; rw [List.length_take]; omega
    · exact ok.syn f hf
  · simp only [cutS, setF]
    split
    · rename_i e; subst e
      intro c hc
      exact ok.byt f hf c (List.mem_of_mem_take hc)
    · exact ok.byt f hf
  · have := sum_set ok hx ((s.dat x).take (cutLen s x m))
    have h2 := ok.sum
    have e : heldS (cutS s x m) = heldS { s with dat := setF s.dat x ((s.dat x).take (cutLen s x m)) } := rfl
    rw [e, this, List.length_take]
    show _ ≤ s.room
    omega
theorem afterD_held {hs : List Nat} {dir : Int} : ∀ (l : List (Nat × Nm)) (i : Nat) {D : Dir}, (∀ m f, D m = some f → f ∈ hs) → (∀ p ∈ l, p.1 ∈ hs) → ∀ m f, afterD D dir l i m = some f → f ∈ hs
  | [], i, D, hD, _, m, f, h => hD m f h
  | p :: l, i, D, hD, hp, m, f, h => by
    refine afterD_held l (i + 1) (D := if bitI dir i then moveD D p.1 p.2 else D) ?_ (fun q hq => hp q (List.mem_cons_of_mem _ hq)) m f h
    split
    · exact moveD_held hD (hp p List.mem_cons_self)
    · exact hD
theorem afterD_inj {dir : Int} : ∀ (l : List (Nat × Nm)) (i : Nat) {D : Dir}, (∀ n m f, D n = some f → D m = some f → n = m) → ∀ n m f, afterD D dir l i n = some f → afterD D dir l i m = some f → n = m
  | [], i, D, hD, n, m, f, h, h2 => hD n m f h h2
  | p :: l, i, D, hD, n, m, f, h, h2 => by
    refine afterD_inj l (i + 1) (D := if bitI dir i then moveD D p.1 p.2 else D) ?_ n m f h h2
    split
    · exact moveD_inj hD
    · exact hD
theorem afterD_nm {dir : Int} : ∀ (l : List (Nat × Nm)) (i : Nat) {D : Dir}, (∀ m f, D m = some f → isNm m = true) → (∀ p ∈ l, p.2 = emptyNm ∨ isNm p.2 = true) → ∀ m f, afterD D dir l i m = some f → isNm m = true
  | [], i, D, hD, _, m, f, h => hD m f h
  | p :: l, i, D, hD, hp, m, f, h => by
    refine afterD_nm l (i + 1) (D := if bitI dir i then moveD D p.1 p.2 else D) ?_ (fun q hq => hp q (List.mem_cons_of_mem _ hq)) m f h
    split
    · exact moveD_nm (hp p List.mem_cons_self) hD
    · exact hD
theorem now_ok {s : St} (ok : Ok s) (dir : Int) : Ok { s with now := afterD s.last dir s.pend 0 } :=
  ⟨ok.room, afterD_held _ _ ok.lastH ok.pendH, ok.lastH, ok.pendH, afterD_inj _ _ ok.lastI, ok.lastI, afterD_nm _ _ ok.lastN ok.pendN, ok.lastN, ok.pendN, ok.nd, ok.syn, ok.byt, ok.sum, ok.fuse, ok.hlen, ok.plen⟩
theorem cuts_ok (cuts : List Int) : ∀ (ns : List Nm) (j : Nat) {s : St}, Ok s → Ok (cutsS cuts s ns j)
  | [], _, _, ok => ok
  | n :: ns, j, s, ok => by
    refine cuts_ok cuts ns (j + 1) ?_
    split
    · rename_i x hx; exact cut_ok ok (ok.nowH _ _ hx) _
    · exact ok
theorem crash_ok {s : St} (ok : Ok s) (dir : Int) (cuts : List Int) (ns : List Nm) : Ok (crashS s dir cuts ns) := by
  have k := settle_ok (cuts_ok cuts ns 0 (now_ok ok dir))
  exact ⟨k.room, k.nowH, k.lastH, k.pendH, k.nowI, k.lastI, k.nowN, k.lastN, k.pendN, k.nd, k.syn, k.byt, k.sum, ⟨Int.le_refl _, by show (0 : Int) < 9223372036854775808; omega⟩, k.hlen, k.plen⟩
end Go.V
