/- Files that tell which they are. -/
import Derived.Test.YtmkheogjnlmkdaaVFlT
set_option linter.unusedSimpArgs false
set_option linter.unusedVariables false
set_option maxRecDepth 20000
namespace Go.V
open Go
def tagL (i : Nat) : List Int := [(i : Int) % 256, (i : Int) / 256 % 256, 7]
theorem tagL_inj {i j : Nat} (hi : i < 200) (hj : j < 200) (h : tagL i = tagL j) : i = j := by
  unfold tagL at h
  simp only [List.cons.injEq] at h
  omega
theorem tagL_byt (i : Nat) : Byt (tagL i) := by
  intro c hc
  simp only [tagL, List.mem_cons, List.not_mem_nil, or_false] at hc
  omega
structure Tagged (i : Nat) (s : St) : Prop where
  tag : ∀ x ∈ s.held, ∃ j, j < i ∧ s.dat x = tagL j
  inj : ∀ x ∈ s.held, ∀ y ∈ s.held, s.dat x = s.dat y → x = y
  syn : ∀ x ∈ s.held, s.syn x = (s.dat x).length
theorem Tagged.sub {i : Nat} {s t : St} (h : Tagged i s) (h1 : ∀ x ∈ t.held, x ∈ s.held) (h2 : t.dat = s.dat) (h3 : t.syn = s.syn) : Tagged (i + 1) t :=
  ⟨fun x hx => let ⟨j, a, b⟩ := h.tag x (h1 x hx); ⟨j, by omega, by rw [h2]; exact b⟩, fun x hx y hy e => by rw [h2] at e; exact h.inj x (h1 x hx) y (h1 y hy) e, fun x hx => by rw [h2, h3]; exact h.syn x (h1 x hx)⟩
/-- Made, written and synced. -/
def madeS (s : St) (x : Nat) (n : Nm) (i : Nat) : St :=
  { s with now := moveD s.now x n, pend := s.pend ++ [(x, n)], held := s.held ++ [x], dat := setF s.dat x (tagL i), syn := setF s.syn x 3, ops := s.ops + 3 }
def mk1 (s : St) (x : Nat) (n : Nm) : St := { s with now := moveD s.now x n, pend := s.pend ++ [(x, n)], held := s.held ++ [x], dat := setF s.dat x [], syn := setF s.syn x 0, ops := s.ops + 1 }
def mk2 (s : St) (x : Nat) (n : Nm) (i : Nat) : St := { mk1 s x n with dat := setF s.dat x (tagL i), ops := s.ops + 2 }
theorem setF2 {α : Type} (f : Nat → α) (x : Nat) (v w : α) : setF (setF f x v) x w = setF f x w := by
  funext y; unfold setF; split <;> rfl
theorem setFg {α : Type} (f : Nat → α) (x : Nat) (v : α) : setF f x v x = v := if_pos rfl
theorem moveD_n {D : Dir} {x : Nat} {n : Nm} (h : isNm n = true) : moveD D x n n = some x := if_pos ⟨rfl, nm_ne h⟩
theorem sum3 (f : Nat → Int) : ∀ l : List Nat, (∀ x ∈ l, f x = 3) → (l.map f).sum = 3 * l.length
  | [], _ => rfl
  | x :: l, h => by
    rw [List.map_cons, List.sum_cons, sum3 f l fun y hy => h y (List.mem_cons_of_mem _ hy), h x List.mem_cons_self, List.length_cons]
    omega
theorem Tagged.held {i : Nat} {s : St} (h : Tagged i s) : heldS s = 3 * s.held.length := by
  unfold heldS
  refine sum3 _ _ fun x hx => ?_
  obtain ⟨j, _, e⟩ := h.tag x hx
  rw [e]; rfl
theorem mk1_held {s : St} {x : Nat} (hx : x ∉ s.held) (n : Nm) : heldS (mk1 s x n) = heldS s := by
  have h1 : s.held.map (fun f => ((setF s.dat x [] f).length : Int)) = s.held.map fun f => ((s.dat f).length : Int) := by
    refine List.map_congr_left fun f hf => ?_
    unfold setF
    rw [if_neg (fun (e : f = x) => hx (e ▸ hf))]
  unfold heldS mk1
  simp only [List.map_append, List.sum_append, List.map_cons, List.map_nil, List.sum_cons, List.sum_nil]
  rw [h1]
  simp [setF]
theorem made_append {s : St} {x i : Nat} (hx : x ∉ s.held) {n : Nm} (hn : isNm n = true) (hf : s.fuse = 0) (ho : s.off = false) (hr : heldS s + 3 ≤ s.room) : appendS (mk1 s x n) n (tagL i) = (mk2 s x n i, 0) := by
  have hfd : findS (mk1 s x n) n = (some x, 0) := by
    rw [find_on (by exact ho) hn]
    have : (mk1 s x n).now n = some x := moveD_n hn
    rw [this]
  unfold appendS
  rw [hfd, mk1_held hx]
  simp only
  rw [if_neg (by show ¬ s.room - heldS s < ((3 : Nat) : Int); omega), count0 (by exact hf)]
  have e1 : (mk1 s x n).dat x = [] := setFg _ _ _
  rw [e1]
  unfold mk2 mk1
  simp only [List.nil_append, setF2]
  congr 2
  omega
theorem made_sync {s : St} {x i : Nat} {n : Nm} (hn : isNm n = true) (hf : s.fuse = 0) (ho : s.off = false) : syncS (mk2 s x n i) n = (madeS s x n i, 0) := by
  have hfd : findS (mk2 s x n i) n = (some x, 0) := by
    rw [find_on (by exact ho) hn]
    have : (mk2 s x n i).now n = some x := moveD_n hn
    rw [this]
  unfold syncS
  rw [hfd]
  simp only
  rw [count0 (by exact hf), if_pos rfl]
  have e1 : (mk2 s x n i).dat x = tagL i := setFg _ _ _
  rw [e1]
  unfold madeS mk2 mk1
  simp only [setF2]
  congr 2
  omega
theorem made_tagged {i : Nat} {s : St} (hi : i < 200) (h : Tagged i s) {x : Nat} (hx : x ∉ s.held) (n : Nm) : Tagged (i + 1) (madeS s x n i) := by
  have hm : ∀ y, y ∈ (madeS s x n i).held ↔ y ∈ s.held ∨ y = x := fun y => by simp [madeS]
  have hd : ∀ y ∈ s.held, (madeS s x n i).dat y = s.dat y ∧ (madeS s x n i).syn y = s.syn y := fun y hy => by
    have : y ≠ x := fun e => hx (e ▸ hy)
    simp [madeS, setF, this]
  have hx' : (madeS s x n i).dat x = tagL i ∧ (madeS s x n i).syn x = 3 := by simp [madeS, setF]
  refine ⟨fun y hy => ?_, fun y hy z hz e => ?_, fun y hy => ?_⟩
  · rcases (hm y).1 hy with hy | rfl
    · obtain ⟨j, a, b⟩ := h.tag y hy
      exact ⟨j, by omega, by rw [(hd y hy).1, b]⟩
    · exact ⟨i, by omega, hx'.1⟩
  · rcases (hm y).1 hy with hy' | hy' <;> rcases (hm z).1 hz with hz' | hz'
    · rw [(hd y hy').1, (hd z hz').1] at e
      exact h.inj y hy' z hz' e
    · subst hz'
      obtain ⟨j, a, b⟩ := h.tag y hy'
      rw [(hd y hy').1, hx'.1, b] at e
      have := tagL_inj (by omega) hi e; omega
    · subst hy'
      obtain ⟨j, a, b⟩ := h.tag z hz'
      rw [(hd z hz').1, hx'.1, b] at e
      have := tagL_inj hi (by omega) e; omega
    · rw [hy', hz']
  · rcases (hm y).1 hy with hy | rfl
    · rw [(hd y hy).1, (hd y hy).2]; exact h.syn y hy
    · rw [hx'.1, hx'.2]; rfl
/-- What made a file. -/
theorem made_create {s : St} (hf : s.fuse = 0) (ho : s.off = false) {t : Stp} {x : Nat} (hk : t.kind = 1) (he : (doesS s t x).2 = 0) :
    s.now (nameS t.i) = none ∧ doesS s t x = (mk1 s x (nameS t.i), 0) := by
  have w := does_went s t x
  generalize doesS s t x = r at w he ⊢
  cases w with
  | no e _ h0 => exfalso; rcases h0 with h0 | h0 | h0 <;> first | exact h0 he | omega
  | create _ _ hn => refine ⟨hn, ?_⟩; unfold pendS; rw [count0 (by exact hf)]; rfl
  | append h _ y hn hr => omega
  | sync h _ y hn => omega
  | rename h _ y hn => omega
  | remove h _ y hn => omega
  | syncdir h _ => omega
theorem moved {s : St} (hf : s.fuse = 0) {t : Stp} {x : Nat} (hk : t.kind = 4 ∨ t.kind = 5) (he : (doesS s t x).2 = 0) :
    ∃ y, s.now (nameS t.i) = some y ∧ doesS s t x = ({ s with now := moveD s.now y (if t.kind = 4 then nameS t.k else emptyNm), pend := s.pend ++ [(y, if t.kind = 4 then nameS t.k else emptyNm)], ops := s.ops + 1 }, 0) := by
  have w := does_went s t x
  generalize doesS s t x = r at w he ⊢
  cases w with
  | no e _ h0 => exfalso; rcases h0 with h0 | h0 | h0 <;> first | exact h0 he | omega
  | create h _ hn => omega
  | append h _ y hn hr => omega
  | sync h _ y hn => omega
  | rename h _ y hn => refine ⟨y, hn, ?_⟩; rw [if_pos h]; unfold pendS; rw [count0 (by exact hf)]
  | remove h _ y hn => refine ⟨y, hn, ?_⟩; rw [if_neg (by omega)]; unfold pendS; rw [count0 (by exact hf)]
  | syncdir h _ => omega
theorem dired {s : St} (hf : s.fuse = 0) {t : Stp} {x : Nat} (hk : t.kind = 6) (he : (doesS s t x).2 = 0) : doesS s t x = (settleS { s with ops := s.ops + 1 }, 0) := by
  have w := does_went s t x
  generalize doesS s t x = r at w he ⊢
  cases w with
  | no e _ h0 => exfalso; rcases h0 with h0 | h0 | h0 <;> first | exact h0 he | omega
  | create h _ hn => omega
  | append h _ y hn hr => omega
  | sync h _ y hn => omega
  | rename h _ y hn => omega
  | remove h _ y hn => omega
  | syncdir h _ => rw [count0 hf, if_pos rfl]
def namedS (L : List Flp) (tag : List Int) (n : Nm) : List Flp :=
  (L.filter fun x => decide (¬ x.2 = tag ∧ ¬ x.1 = n)) ++ (if n = emptyNm then [] else [(n, tag)])
/-- A list of files tells a directory. -/
def Tells (D : Dir) (dat : Nat → List Int) (L : List Flp) : Prop := Nd L ∧ ∀ n, lkp L n = (D n).map dat
theorem look_filter {L : List Flp} (nd : Nd L) (p : Flp → Bool) (n : Nm) : lkp (L.filter p) n = (lkp L n).filter fun d => p (n, d) := by
  induction L with
  | nil => rfl
  | cons x L ih =>
    unfold Nd at nd ih
    rw [List.map_cons, List.nodup_cons] at nd
    rw [List.filter_cons]
    by_cases hx : x.1 = n
    · have hno : lkp (L.filter p) n = none := look_none.2 fun y hy e => nd.1 (by rw [hx, ← e]; exact List.mem_map.2 ⟨y, (List.mem_filter.1 hy).1, rfl⟩)
      rw [look_cons, if_pos hx]
      by_cases hp : p x = true
      · rw [if_pos hp, look_cons, if_pos hx]
        have : (n, x.2) = x := by rw [← hx]
        rw [Option.filter_some, this, if_pos hp]
      · rw [if_neg hp, hno]
        have : (n, x.2) = x := by rw [← hx]
        rw [Option.filter_some, this, if_neg hp]
    · rw [look_cons, if_neg hx]
      split
      · rw [look_cons, if_neg hx]; exact ih nd.2
      · exact ih nd.2
theorem tells_named {D : Dir} {dat : Nat → List Int} {L : List Flp} (h : Tells D dat L) {hs : List Nat} (hD : ∀ n f, D n = some f → f ∈ hs) (hN : ∀ n f, D n = some f → isNm n = true) (inj : ∀ x ∈ hs, ∀ y ∈ hs, dat x = dat y → x = y) {x : Nat} (hx : x ∈ hs) (n : Nm) :
    Tells (moveD D x n) dat (namedS L (dat x) n) := by
  obtain ⟨nd, hl⟩ := h
  have ndf : Nd (L.filter fun y => decide (¬ y.2 = dat x ∧ ¬ y.1 = n)) := by
    unfold Nd at *
    rw [List.Nodup, List.pairwise_map] at *
    exact nd.filter _
  have hlf : ∀ k, lkp (L.filter fun y => decide (¬ y.2 = dat x ∧ ¬ y.1 = n)) k = if k = n then none else if D k = some x then none else (D k).map dat := by
    intro k
    rw [look_filter nd, hl k]
    by_cases hk : k = n
    · rw [if_pos hk]
      cases hDk : D k with
      | none => rfl
      | some y => rw [Option.map_some, Option.filter_some, if_neg (by simp [hk])]
    · rw [if_neg hk]
      cases hDk : D k with
      | none => simp
      | some y =>
        rw [Option.map_some, Option.filter_some]
        by_cases hy : y = x
        · subst hy; rw [if_neg (by simp), if_pos rfl]
        · rw [if_pos, if_neg (by simpa using hy)]
          simp only [decide_eq_true_eq]
          exact ⟨fun e => hy (inj y (hD _ _ hDk) x hx e), hk⟩
  unfold namedS
  by_cases hn : n = emptyNm
  · rw [if_pos hn, List.append_nil]
    refine ⟨ndf, fun k => ?_⟩
    have em : moveD D x n k = if D k = some x then none else D k := by unfold moveD; exact if_neg (fun h => h.2 hn)
    rw [hlf k, em]
    by_cases hk : k = n
    · rw [if_pos hk]
      cases hDk : D k with
      | none => simp
      | some y => have := hN _ _ hDk; rw [hk, hn] at this; exact absurd this (by decide +kernel)
    · rw [if_neg hk]; split <;> simp
  · rw [if_neg hn]
    refine ⟨nd_snoc ndf (by rw [hlf, if_pos rfl]) _, fun k => ?_⟩
    rw [look_append, hlf k, look_cons, look_nil]
    by_cases hk : k = n
    · have em : moveD D x n k = some x := by unfold moveD; exact if_pos ⟨hk, hn⟩
      rw [if_pos hk, if_pos (show ((n, dat x) : Flp).1 = k from hk.symm), em]; rfl
    · have em : moveD D x n k = if D k = some x then none else D k := by unfold moveD; exact if_neg (fun h => hk h.1)
      rw [if_neg hk, if_neg (show ¬ ((n, dat x) : Flp).1 = k from fun e => hk e.symm), Option.or_none, em]
      split <;> simp
theorem tells_congr {D : Dir} {dat dat' : Nat → List Int} {L : List Flp} (h : Tells D dat L) (hd : ∀ n x, D n = some x → dat' x = dat x) : Tells D dat' L :=
  ⟨h.1, fun n => by rw [h.2 n]; cases hx : D n with
    | none => rfl
    | some x => simp [hd n x hx]⟩
theorem named_props {L : List Flp} {tag : List Int} {n : Nm} {m : Nat} (hL : ∀ x ∈ L, Byt x.2 ∧ x.2.length ≤ m) (ht : Byt tag ∧ tag.length ≤ m) : (∀ x ∈ namedS L tag n, Byt x.2 ∧ x.2.length ≤ m) ∧ (namedS L tag n).length ≤ L.length + 1 := by
  unfold namedS
  refine ⟨fun x hx => ?_, ?_⟩
  · rcases List.mem_append.1 hx with hx | hx
    · exact hL x (List.mem_filter.1 hx).1
    · split at hx
      · simp at hx
      · simp only [List.mem_singleton] at hx; subst hx; exact ht
  · rw [List.length_append]
    have h1 := List.length_filter_le (fun x : Flp => decide (¬ x.2 = tag ∧ ¬ x.1 = n)) L
    have h2 : (if n = emptyNm then ([] : List Flp) else [(n, tag)]).length ≤ 1 := by split <;> simp
    omega
/-- A cut of what is synced whole. -/
theorem cuts_none : ∀ (ns : List Nm) (j : Nat) (s : St), (∀ n ∈ ns, ∀ x, s.now n = some x → s.syn x = (s.dat x).length) → (cutsS [] s ns j).dat = s.dat
  | [], j, s, _ => rfl
  | n :: ns, j, s, h => by
    unfold cutsS
    cases hn : s.now n with
    | none => exact cuts_none ns (j + 1) s fun m hm => h m (List.mem_cons_of_mem _ hm)
    | some x =>
      have h1 := h n List.mem_cons_self x hn
      have hl : cutLen s x (moreI [] j) = (s.dat x).length := by unfold cutLen; omega
      have hd : (cutS s x (moreI [] j)).dat = s.dat := by
        unfold cutS
        rw [hl, List.take_length]
        exact setF_idem _ _
      refine (cuts_none ns (j + 1) (cutS s x (moreI [] j)) fun m hm y hy => ?_).trans hd
      rw [hd]
      have a := h m (List.mem_cons_of_mem _ hm) y hy
      unfold cutS setF
      simp only
      split
      · rename_i e; rw [hl, e]
      · exact a
end Go.V
