/- Behind a crash; a new file system of the same files. -/
import Derived.Test.YtmkheogjnlmkdaaVFmA
import Derived.Test.YtmkheogjnlmkdaaVFlY
import Derived.Test.YtmkheogjnlmkdaaVFsL
set_option linter.unusedSimpArgs false
set_option linter.unusedVariables false
set_option maxRecDepth 20000
namespace Go.V
open Go
/-- Nothing pends, all that is held is named and synced. -/
structure Calm (s : St) : Prop where
  off : s.off = false
  fuse : s.fuse = 0
  pend : s.pend = []
  last : s.last = s.now
  named : ∀ x ∈ s.held, ∃ n, s.now n = some x
  syn : ∀ n x, s.now n = some x → s.syn x = (s.dat x).length
theorem cuts_syn (cuts : List Int) (x : Nat) : ∀ (ns : List Nm) (j : Nat) (s : St), s.syn x ≤ (s.dat x).length → (s.syn x = (s.dat x).length ∨ ∃ n ∈ ns, s.now n = some x) → (cutsS cuts s ns j).syn x = ((cutsS cuts s ns j).dat x).length
  | [], j, s, h, h2 => by
    rcases h2 with h2 | ⟨n, hn, _⟩
    · exact h2
    · simp at hn
  | n :: ns, j, s, h, h2 => by
    unfold cutsS
    cases hn : s.now n with
    | none =>
      refine cuts_syn cuts x ns (j + 1) s h (h2.imp_right fun ⟨m, hm, hx⟩ => ?_)
      rcases List.mem_cons.1 hm with rfl | hm
      · rw [hn] at hx; cases hx
      · exact ⟨m, hm, hx⟩
    | some y =>
      by_cases e : x = y
      · subst e
        have hd : (cutS s x (moreI cuts j)).dat x = (s.dat x).take (cutLen s x (moreI cuts j)) := by simp [cutS, setF]
        have hs : (cutS s x (moreI cuts j)).syn x = cutLen s x (moreI cuts j) := by simp [cutS, setF]
        have hl : cutLen s x (moreI cuts j) ≤ (s.dat x).length := by unfold cutLen; omega
        have hq : (cutS s x (moreI cuts j)).syn x = ((cutS s x (moreI cuts j)).dat x).length := by rw [hd, hs, List.length_take]; omega
        exact cuts_syn cuts x ns (j + 1) (cutS s x (moreI cuts j)) (by rw [hq]; exact Nat.le_refl _) (.inl hq)
      · have hd : (cutS s y (moreI cuts j)).dat x = s.dat x := by simp [cutS, setF, e]
        have hs : (cutS s y (moreI cuts j)).syn x = s.syn x := by simp [cutS, setF, e]
        refine cuts_syn cuts x ns (j + 1) (cutS s y (moreI cuts j)) (by rw [hd, hs]; exact h) ?_
        rw [hd, hs]
        refine h2.imp_right fun ⟨m, hm, hx⟩ => ?_
        rcases List.mem_cons.1 hm with rfl | hm
        · rw [hn] at hx; exact absurd (Option.some.inj hx).symm e
        · exact ⟨m, hm, hx⟩
theorem crash_calm {s : St} (ok : Ok s) {dir : Int} {cuts : List Int} {ns : List Nm} (hns : IsNames (afterD s.last dir s.pend 0) ns) : Calm (crashS s dir cuts ns) ∧ ∀ m, (∀ x ∈ s.held, (s.dat x).length ≤ m) → ∀ x ∈ (crashS s dir cuts ns).held, ((crashS s dir cuts ns).dat x).length ≤ m := by
  obtain ⟨z1, z2, z3, z4, z5, z6, z7⟩ := crash_ops s dir cuts ns
  have hA := afterD_held (hs := s.held) (dir := dir) s.pend 0 ok.lastH ok.pendH
  have hk := (cuts_keep cuts ns 0 { s with now := afterD s.last dir s.pend 0 }).2.2.2
  refine ⟨⟨z3, z4, z5, by rw [z7, z6], fun x hx => ?_, fun n x hx => ?_⟩, fun m hm x hx => ?_⟩
  · have := (List.mem_filter.1 hx).2
    have h2 : ∃ n, (cutsS cuts { s with now := afterD s.last dir s.pend 0 } ns 0).now n = some x := by simpa using this
    exact h2
  · rw [z6] at hx
    exact cuts_syn cuts x ns 0 { s with now := afterD s.last dir s.pend 0 } (ok.syn x (hA n x hx)) (.inr ⟨n, (hns.2 n).2 (by rw [hx]; simp), hx⟩)
  · have hxs : x ∈ s.held := by
      have := (List.mem_filter.1 hx).1
      rw [hk] at this
      exact this
    have := (cuts_pre cuts x ns 0 { s with now := afterD s.last dir s.pend 0 } (ok.syn x hxs)).1.length_le
    exact Nat.le_trans this (hm x hxs)
/-- How long files grow. -/
theorem does_len {s : St} {m : Nat} (h : ∀ x ∈ s.held, (s.dat x).length ≤ m) (t : Stp) (x : Nat) : ∀ y ∈ (doesS s t x).1.held, ((doesS s t x).1.dat y).length ≤ m + 50 := by
  have w := does_went s t x
  generalize doesS s t x = r at w
  have cn : ∀ u : St, (countS u).1.held = u.held ∧ (countS u).1.dat = u.dat := fun u => by obtain ⟨_, _, a, b, _⟩ := count_ops u; exact ⟨a, b⟩
  have up : ∀ y ∈ s.held, (s.dat y).length ≤ m + 50 := fun y hy => by have := h y hy; omega
  cases w with
  | no e _ _ => exact up
  | create _ _ hn =>
    intro y hy
    unfold pendS at hy ⊢
    rw [(cn _).1] at hy
    rw [(cn _).2]
    show (setF s.dat x [] y).length ≤ _
    unfold setF
    split
    · simp
    · rcases List.mem_append.1 (show y ∈ s.held ++ [x] from hy) with hy | hy
      · exact up y hy
      · simp only [List.mem_singleton] at hy; contradiction
  | append _ _ z hn hr =>
    intro y hy
    rw [(cn _).1] at hy
    rw [(cn _).2]
    have hy : y ∈ s.held := hy
    show (setF s.dat z (s.dat z ++ bytS t) y).length ≤ _
    unfold setF
    split
    · rename_i e
      subst e
      have := h y hy
      have := bytS_le t
      rw [List.length_append]; omega
    · exact up y hy
  | sync _ _ z hn =>
    split
    · intro y hy
      have hy : y ∈ (countS s).1.held := hy
      show ((countS s).1.dat y).length ≤ _
      rw [(cn s).1] at hy
      rw [(cn s).2]; exact up y hy
    · rw [(cn s).1, (cn s).2]; exact up
  | rename _ _ z hn => unfold pendS; rw [(cn _).1, (cn _).2]; exact up
  | remove _ _ z hn => unfold pendS; rw [(cn _).1, (cn _).2]; exact up
  | syncdir _ _ =>
    split
    · intro y hy
      have hy := (List.mem_filter.1 hy).1
      show ((countS s).1.dat y).length ≤ _
      rw [(cn s).1] at hy
      rw [(cn s).2]; exact up y hy
    · rw [(cn s).1, (cn s).2]; exact up
/-! ### A new one of the same files -/
def mkD (s : St) (x : Nat) (n : Nm) (d : List Int) : St := { mk1 s x n with dat := setF s.dat x d, ops := s.ops + 2 }
def mkE (s : St) (x : Nat) (n : Nm) (d : List Int) : St := { mk1 s x n with dat := setF s.dat x d, syn := setF s.syn x d.length, ops := s.ops + 3 }
theorem mk_append {s : St} {x : Nat} {d : List Int} (hx : x ∉ s.held) {n : Nm} (hn : isNm n = true) (hf : s.fuse = 0) (ho : s.off = false) (hr : heldS s + d.length ≤ s.room) : appendS (mk1 s x n) n d = (mkD s x n d, 0) := by
  have hfd : findS (mk1 s x n) n = (some x, 0) := by
    rw [find_on (by exact ho) hn]
    have : (mk1 s x n).now n = some x := moveD_n hn
    rw [this]
  unfold appendS
  rw [hfd, mk1_held hx]
  simp only
  rw [if_neg (by show ¬ s.room - heldS s < _; omega), count0 (by exact hf)]
  have e1 : (mk1 s x n).dat x = [] := setFg _ _ _
  rw [e1]
  unfold mkD mk1
  simp only [List.nil_append, setF2]
  congr 2
  omega
theorem mk_sync {s : St} {x : Nat} {d : List Int} {n : Nm} (hn : isNm n = true) (hf : s.fuse = 0) (ho : s.off = false) : syncS (mkD s x n d) n = (mkE s x n d, 0) := by
  have hfd : findS (mkD s x n d) n = (some x, 0) := by
    rw [find_on (by exact ho) hn]
    have : (mkD s x n d).now n = some x := moveD_n hn
    rw [this]
  unfold syncS
  rw [hfd]
  simp only
  rw [count0 (by exact hf), if_pos rfl]
  have e1 : (mkD s x n d).dat x = d := setFg _ _ _
  rw [e1]
  unfold mkE mkD mk1
  simp only [setF2]
  congr 2
  omega
theorem mk_create {s : St} {x : Nat} {n : Nm} (hn : isNm n = true) (hf : s.fuse = 0) (ho : s.off = false) (h0 : s.now n = none) : createS s n x = (mk1 s x n, 0) := by
  unfold createS
  have hb : beginS s [n] = 0 := by rw [begin_nm (by simpa using hn), ho]; rfl
  rw [if_neg (by rw [hb]; simp), if_neg (by simp [h0])]
  unfold pendS
  rw [count0 (by exact hf)]
  rfl
/-- The first so many names are made. -/
structure Built (s : St) (l : List Nm) (t : St) : Prop where
  off : t.off = false
  fuse : t.fuse = 0
  room : t.room = s.room
  yes : ∀ n ∈ l, ∃ y ∈ t.held, t.now n = some y ∧ t.dat y = lastD s n ∧ t.syn y = (lastD s n).length
  no : ∀ n, n ∉ l → t.now n = none
  named : ∀ y ∈ t.held, ∃ n, t.now n = some y
  held : heldS t = (l.map fun n => ((lastD s n).length : Int)).sum
theorem built_step {s t : St} {l : List Nm} (h : Built s l t) (ok : Ok t) {n : Nm} (hn : n ∉ l) (hnm : isNm n = true) {x : Nat} (hx : x ∉ t.held) : Built s (l ++ [n]) (mkE t x n (lastD s n)) := by
  have hne : ∀ y ∈ t.held, y ≠ x := fun y hy e => hx (e ▸ hy)
  have hD : ∀ k, (mkE t x n (lastD s n)).now k = if k = n then some x else t.now k := fun k => by
    show moveD t.now x n k = _
    unfold moveD
    by_cases hk : k = n
    · rw [if_pos ⟨hk, nm_ne hnm⟩, if_pos hk]
    · rw [if_neg (fun e => hk e.1), if_neg hk, if_neg (fun e => hx (ok.nowH _ _ e))]
  refine ⟨h.off, h.fuse, h.room, fun k hk => ?_, fun k hk => ?_, fun y hy => ?_, ?_⟩
  · rcases List.mem_append.1 hk with hk | hk
    · obtain ⟨y, a, b, c, d⟩ := h.yes k hk
      have hkn : k ≠ n := fun e => hn (e ▸ hk)
      refine ⟨y, List.mem_append_left _ a, by rw [hD, if_neg hkn, b], ?_, ?_⟩
      · show setF t.dat x (lastD s n) y = _
        unfold setF; rw [if_neg (hne y a), c]
      · show setF t.syn x (lastD s n).length y = _
        unfold setF; rw [if_neg (hne y a), d]
    · simp only [List.mem_singleton] at hk
      subst hk
      exact ⟨x, List.mem_append_right _ (by simp), by rw [hD, if_pos rfl], setFg _ _ _, setFg _ _ _⟩
  · rw [hD, if_neg (fun e => hk (by rw [e]; simp))]
    exact h.no k fun e => hk (List.mem_append_left _ e)
  · rcases List.mem_append.1 (show y ∈ t.held ++ [x] from hy) with hy | hy
    · obtain ⟨k, hk⟩ := h.named y hy
      refine ⟨k, ?_⟩
      rw [hD, if_neg, hk]
      intro e
      rw [e, h.no n hn] at hk
      cases hk
    · simp only [List.mem_singleton] at hy
      subst hy
      exact ⟨n, by rw [hD, if_pos rfl]⟩
  · rw [List.map_append, List.sum_append, ← h.held]
    have h1 : t.held.map (fun f => ((setF t.dat x (lastD s n) f).length : Int)) = t.held.map fun f => ((t.dat f).length : Int) := by
      refine List.map_congr_left fun f hf => ?_
      unfold setF
      rw [if_neg (fun (e : f = x) => hx (e ▸ hf))]
    unfold heldS mkE mk1
    simp only [List.map_append, List.sum_append, List.map_cons, List.map_nil, List.sum_cons, List.sum_nil]
    rw [h1]
    simp [setF]
theorem sum_sub (g : Nat → Int) (hg : ∀ x, 0 ≤ g x) : ∀ (l r : List Nat), l.Nodup → (∀ x ∈ l, x ∈ r) → (l.map g).sum ≤ (r.map g).sum
  | [], r, _, _ => by
    simp only [List.map_nil, List.sum_nil]
    exact sum_nonneg _ fun x hx => by obtain ⟨y, _, rfl⟩ := List.mem_map.1 hx; exact hg y
  | x :: l, r, hn, hs => by
    have hx := hs x List.mem_cons_self
    have ih := sum_sub g hg l (r.erase x) (List.nodup_cons.1 hn).2 fun y hy => by
      refine (List.mem_erase_of_ne fun e => ?_).2 (hs y (List.mem_cons_of_mem _ hy))
      subst e; exact (List.nodup_cons.1 hn).1 hy
    have hp := perm_sum ((List.perm_cons_erase hx).map g)
    rw [hp]
    simp only [List.map_cons, List.sum_cons]
    omega
/-- Of a calm one: what its names bear is within what is held. -/
theorem names_sum {s : St} (ok : Ok s) (hc : Calm s) {ns : List Nm} (hns : IsNames s.last ns) (j : Nat) : ((ns.take j).map fun n => ((lastD s n).length : Int)).sum ≤ heldS s := by
  have hlt : ∀ n ∈ ns.take j, ∃ x, s.now n = some x := fun n hn => by
    have := (hns.2 n).1 (List.mem_of_mem_take hn)
    rw [hc.last] at this
    cases hx : s.now n with
    | none => exact absurd hx this
    | some x => exact ⟨x, rfl⟩
  have e1 : (ns.take j).map (fun n => ((lastD s n).length : Int)) = ((ns.take j).map fun n => (s.now n).getD 0).map fun x => ((s.dat x).length : Int) := by
    rw [List.map_map]
    refine List.map_congr_left fun n hn => ?_
    obtain ⟨x, hx⟩ := hlt n hn
    show ((lastD s n).length : Int) = ((s.dat ((s.now n).getD 0)).length : Int)
    unfold lastD
    rw [hc.last, hx]
    simp only [Option.getD_some]
    rw [hc.syn n x hx, List.take_length]
  rw [e1]
  refine sum_sub _ (fun x => by omega) _ _ ?_ fun x hx => ?_
  · rw [List.Nodup, List.pairwise_map]
    refine List.Pairwise.imp_of_mem (fun {a b} ha hb hab e => ?_) ((names_nodup hns).sublist (List.take_sublist _ _))
    obtain ⟨x, hx⟩ := hlt a ha
    obtain ⟨y, hy⟩ := hlt b hb
    rw [hx, hy] at e
    have e : x = y := e
    exact hab (ok.nowI a b x hx (e ▸ hy))
  · obtain ⟨n, hn, rfl⟩ := List.mem_map.1 hx
    obtain ⟨x, hx⟩ := hlt n hn
    rw [hx]
    exact ok.nowH n x hx
open Classical in
/-- The one of the same files can't be told from it. -/
theorem built_sim {s t : St} (oks : Ok s) (okt : Ok t) (hc : Calm s) {ns : List Nm} (hns : IsNames s.last ns) (h : Built s ns t) (hl : t.last = t.now) (hp : t.pend = []) : ∃ φ, Sim φ s t := by
  have hs : ∀ n x, s.now n = some x → n ∈ ns := fun n x hx => (hns.2 n).2 (by rw [hc.last, hx]; simp)
  have key : ∀ n x, s.now n = some x → ∃ y, t.now n = some y ∧ t.dat y = s.dat x ∧ t.syn y = s.syn x := fun n x hx => by
    obtain ⟨y, a, b, c, d⟩ := h.yes n (hs n x hx)
    have e : lastD s n = s.dat x := by
      unfold lastD
      rw [hc.last, hx]
      simp only
      rw [hc.syn n x hx, List.take_length]
    exact ⟨y, b, by rw [c, e], by rw [d, e, hc.syn n x hx]⟩
  obtain ⟨φ, hφ⟩ : ∃ φ : Nat → Nat, ∀ n x, s.now n = some x → t.now n = some (φ x) ∧ t.dat (φ x) = s.dat x ∧ t.syn (φ x) = s.syn x := by
    refine ⟨fun x => if hx : ∃ n, s.now n = some x then (t.now hx.choose).getD 0 else 0, fun n x hx => ?_⟩
    have hex : ∃ n, s.now n = some x := ⟨n, hx⟩
    have hch := hex.choose_spec
    have hcn : hex.choose = n := oks.nowI _ _ _ hch hx
    obtain ⟨y, a, b, c⟩ := key n x hx
    have : (if hx : ∃ n, s.now n = some x then (t.now hx.choose).getD 0 else 0) = y := by
      rw [dif_pos hex, hcn, a]; rfl
    simp only
    rw [this]
    exact ⟨a, b, c⟩
  have hnow : ∀ n, t.now n = (s.now n).map φ := fun n => by
    cases hx : s.now n with
    | none =>
      refine h.no n fun hn => ?_
      have := (hns.2 n).1 hn
      rw [hc.last] at this
      exact this hx
    | some x => exact (hφ n x hx).1
  refine ⟨φ, fun x hx y hy e => ?_, fun y => ?_, hnow, fun n => by rw [hl, hc.last]; exact hnow n, by rw [hp, hc.pend]; rfl, fun x hx => ?_, fun x hx => ?_, h.room, hc.off, h.off, hc.fuse, h.fuse⟩
  · obtain ⟨n, hn⟩ := hc.named x hx
    obtain ⟨m, hm⟩ := hc.named y hy
    have h1 := (hφ n x hn).1
    have h2 := (hφ m y hm).1
    rw [← e] at h2
    have := okt.nowI _ _ _ h1 h2
    subst this
    rw [hn] at hm
    exact Option.some.inj hm
  · constructor
    · intro hy
      obtain ⟨n, hn⟩ := h.named y hy
      rw [hnow n] at hn
      obtain ⟨x, hx, e⟩ := Option.map_eq_some_iff.1 hn
      exact ⟨x, oks.nowH _ _ hx, e⟩
    · rintro ⟨x, hx, e⟩
      obtain ⟨n, hn⟩ := hc.named x hx
      have := (hφ n x hn).1
      rw [e] at this
      exact okt.nowH _ _ this
  · obtain ⟨n, hn⟩ := hc.named x hx
    exact (hφ n x hn).2.1
  · obtain ⟨n, hn⟩ := hc.named x hx
    exact (hφ n x hn).2.2
end Go.V
