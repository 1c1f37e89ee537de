/- Steps, done to a file system and to a plain list of files. -/
import Derived.Test.YtmkheogjnlmkdaaVFsO
import Derived.Test.YtmkheogjnlmkdaaVRec
set_option linter.unusedSimpArgs false
set_option linter.unusedVariables false
set_option maxRecDepth 20000
namespace Go.V
open Go
structure Stp where
  kind : Int
  i : Int
  k : Int
  many : Int
  fill : Int
def stc (s : Stp) : List Value := [.int .i64 s.kind, .int .i64 s.i, .int .i64 s.k, .int .i64 s.many, .int .u8 s.fill]
theorem stc_len (s : Stp) : (stc s).length = 5 := rfl
def names8 : List ByteArray := [⟨#[97]⟩, ⟨#[98]⟩, ⟨#[99]⟩, ⟨#[97, 46, 49]⟩, ⟨#[97, 98]⟩, ⟨#[48]⟩, ⟨#[116, 46, 120]⟩, ⟨#[122, 46, 57, 46, 57]⟩]
def nameS (i : Int) : Nm := names8.getD (i % 8).toNat emptyNm
theorem nameS_nm (i : Int) : isNm (nameS i) = true := by
  have h : ∀ j, j < 8 → isNm (names8.getD j emptyNm) = true := by decide +kernel
  exact h _ (by omega)
theorem nm_ne {n : Nm} (h : isNm n = true) : n ≠ emptyNm := by
  rintro rfl
  revert h
  decide +kernel
def bytS (s : Stp) : List Int := (List.range (s.many % 51).toNat).map fun (j : Nat) => (s.fill + (j : Int)) % 256
theorem bytS_len (s : Stp) : (bytS s).length = (s.many % 51).toNat := by simp [bytS]
theorem bytS_le (s : Stp) : (bytS s).length ≤ 50 := by rw [bytS_len]; omega
theorem bytS_byt (s : Stp) : Byt (bytS s) := by
  intro c hc
  obtain ⟨j, _, rfl⟩ := List.mem_map.1 hc
  omega
abbrev Flp := ByteArray × List Int
def hasN (L : List Flp) (n : Nm) : Option Nat := L.findIdx? fun x => decide (x.1 = n)
def hasS (L : List Flp) (n : Nm) : Int := match hasN L n with | some i => i | none => -1
def dropL {α : Type} (L : List α) (i : Int) : List α := if 0 ≤ i then L.eraseIdx i.toNat else L
def plainS (L : List Flp) (s : Stp) : List Flp :=
  if s.kind = 1 then match hasN L (nameS s.i) with | none => L ++ [(nameS s.i, [])] | some _ => L
  else if s.kind = 2 then match hasN L (nameS s.i) with | some i => L.modify i fun x => (x.1, x.2 ++ bytS s) | none => L
  else if s.kind = 4 then match hasN L (nameS s.i) with
    | some i => if nameS s.i ≠ nameS s.k then dropL (dropL L i) (hasS (dropL L i) (nameS s.k)) ++ [(nameS s.k, (L.getD i (emptyNm, [])).2)] else L
    | none => L
  else if s.kind = 5 then dropL L (hasS L (nameS s.i)) else L
/-- What a list of files says of a name. -/
def lkp (L : List Flp) (n : Nm) : Option (List Int) := (L.find? fun x => decide (x.1 = n)).map (·.2)
def Nd (L : List Flp) : Prop := (L.map (·.1)).Nodup
def without (L : List Flp) (n : Nm) : List Flp := L.filter fun x => decide (x.1 ≠ n)
theorem look_cons (x : Flp) (L : List Flp) (n : Nm) : lkp (x :: L) n = if x.1 = n then some x.2 else lkp L n := by
  unfold lkp
  rw [List.find?_cons]
  by_cases h : x.1 = n
  · simp [h]
  · simp [h]
theorem look_nil (n : Nm) : lkp [] n = none := rfl
theorem look_none {L : List Flp} {n : Nm} : lkp L n = none ↔ ∀ x ∈ L, x.1 ≠ n := by
  unfold lkp
  rw [Option.map_eq_none_iff, List.find?_eq_none]
  simp
theorem look_some {L : List Flp} (nd : Nd L) {n : Nm} {d : List Int} : lkp L n = some d ↔ (n, d) ∈ L := by
  induction L with
  | nil => simp [look_nil]
  | cons x L ih =>
    rw [look_cons]
    unfold Nd at nd ih
    rw [List.map_cons, List.nodup_cons] at nd
    by_cases h : x.1 = n
    · subst h
      rw [if_pos rfl, List.mem_cons]
      constructor
      · intro e; cases e; exact .inl rfl
      · rintro (e | e)
        · rw [← e]
        · exact absurd (List.mem_map.2 ⟨_, e, rfl⟩) nd.1
    · rw [if_neg h, ih nd.2, List.mem_cons]
      constructor
      · exact .inr
      · rintro (e | e)
        · exact absurd (by rw [← e]) h
        · exact e
theorem look_append (L M : List Flp) (n : Nm) : lkp (L ++ M) n = (lkp L n).or (lkp M n) := by
  induction L with
  | nil => simp [look_nil]
  | cons x L ih =>
    rw [List.cons_append, look_cons, look_cons, ih]
    split <;> simp
theorem look_without (L : List Flp) (m n : Nm) : lkp (without L m) n = if n = m then none else lkp L n := by
  induction L with
  | nil => simp [without, look_nil]
  | cons x L ih =>
    unfold without at *
    rw [List.filter_cons, look_cons]
    by_cases h : x.1 = m
    · rw [if_neg (by simp [h]), ih]
      by_cases hn : n = m
      · rw [if_pos hn, if_pos hn]
      · rw [if_neg hn, if_neg hn, if_neg (by rw [h]; exact fun e => hn e.symm)]
    · rw [if_pos (by simp [h]), look_cons, ih]
      by_cases hn : n = m
      · rw [if_pos hn, if_neg (by rw [hn]; exact h), if_pos hn]
      · rw [if_neg hn, if_neg hn]
theorem without_nd {L : List Flp} (nd : Nd L) (m : Nm) : Nd (without L m) := by
  unfold Nd at *
  rw [List.Nodup, List.pairwise_map] at *
  exact nd.filter _
theorem hasN_none {L : List Flp} {n : Nm} : hasN L n = none ↔ lkp L n = none := by
  unfold hasN
  rw [List.findIdx?_eq_none_iff, look_none]
  simp
theorem hasN_some {L : List Flp} {n : Nm} {i : Nat} (h : hasN L n = some i) : ∃ d, L[i]? = some (n, d) ∧ lkp L n = some d := by
  induction L generalizing i with
  | nil => simp [hasN] at h
  | cons x L ih =>
    unfold hasN at h ih
    rw [List.findIdx?_cons] at h
    by_cases hx : x.1 = n
    · simp only [hx, decide_true, if_true, Option.some.injEq] at h
      subst h
      exact ⟨x.2, by rw [List.getElem?_cons_zero, ← hx], by rw [look_cons, if_pos hx]⟩
    · simp only [hx, decide_false, Bool.false_eq_true, if_false] at h
      obtain ⟨j, hj, rfl⟩ := Option.map_eq_some_iff.1 h
      obtain ⟨d, h1, h2⟩ := ih hj
      exact ⟨d, by simpa using h1, by rw [look_cons, if_neg hx]; exact h2⟩
theorem drop_has {L : List Flp} (nd : Nd L) {n : Nm} {i : Nat} (h : hasN L n = some i) : L.eraseIdx i = without L n := by
  induction L generalizing i with
  | nil => simp [hasN] at h
  | cons x L ih =>
    unfold hasN at h ih
    unfold Nd at nd ih
    rw [List.map_cons, List.nodup_cons] at nd
    rw [List.findIdx?_cons] at h
    by_cases hx : x.1 = n
    · simp only [hx, decide_true, if_true, Option.some.injEq] at h
      subst h
      unfold without
      rw [List.eraseIdx_cons_zero, List.filter_cons, if_neg (by simp [hx]), List.filter_eq_self.2]
      intro y hy
      simp only [decide_eq_true_eq]
      intro e
      exact nd.1 (by rw [hx, ← e]; exact List.mem_map.2 ⟨y, hy, rfl⟩)
    · simp only [hx, decide_false, Bool.false_eq_true, if_false] at h
      obtain ⟨j, hj, rfl⟩ := Option.map_eq_some_iff.1 h
      unfold without at *
      rw [List.eraseIdx_cons_succ, List.filter_cons, if_pos (by simp [hx]), ih nd.2 hj]
theorem without_none {L : List Flp} {n : Nm} (h : lkp L n = none) : without L n = L := by
  unfold without
  rw [List.filter_eq_self]
  intro x hx
  simpa using look_none.1 h x hx
theorem dropL_has {L : List Flp} (nd : Nd L) (n : Nm) : dropL L (hasS L n) = without L n := by
  unfold dropL hasS
  cases h : hasN L n with
  | none => rw [without_none (hasN_none.1 h)]; rfl
  | some i => simp only; rw [if_pos (by omega), Int.toNat_natCast]; exact drop_has nd h
theorem mod_has {L : List Flp} (nd : Nd L) {n : Nm} {i : Nat} (h : hasN L n = some i) (b : List Int) : (∀ m, lkp (L.modify i fun x => (x.1, x.2 ++ b)) m = if m = n then (lkp L n).map (· ++ b) else lkp L m) ∧ Nd (L.modify i fun x => (x.1, x.2 ++ b)) := by
  have hn : (L.modify i fun x => (x.1, x.2 ++ b)).map (·.1) = L.map (·.1) := by
    apply List.ext_getElem?
    intro k
    rw [List.getElem?_map, List.getElem?_map, List.getElem?_modify]
    cases hk : L[k]? with
    | none => simp
    | some y => by_cases e : i = k <;> simp [e]
  refine ⟨?_, by unfold Nd; rw [hn]; exact nd⟩
  induction L generalizing i with
  | nil => simp [hasN] at h
  | cons x L ih =>
    intro m
    unfold hasN at h ih
    unfold Nd at nd ih
    rw [List.map_cons, List.nodup_cons] at nd
    rw [List.findIdx?_cons] at h
    by_cases hx : x.1 = n
    · simp only [hx, decide_true, if_true, Option.some.injEq] at h
      subst h
      rw [List.modify_zero_cons, look_cons, look_cons, look_cons]
      simp only [hx, if_true]
      by_cases hm : m = n
      · subst hm; simp
      · rw [if_neg hm, if_neg (fun e => hm e.symm), if_neg (fun e => hm e.symm)]
    · simp only [hx, decide_false, Bool.false_eq_true, if_false] at h
      obtain ⟨j, hj, rfl⟩ := Option.map_eq_some_iff.1 h
      rw [List.modify_succ_cons, look_cons, look_cons, look_cons, if_neg hx]
      have hn' : (L.modify j fun x => (x.1, x.2 ++ b)).map (·.1) = L.map (·.1) := by
        rw [List.modify_succ_cons] at hn
        simpa using hn
      rw [ih nd.2 hj hn' m]
      by_cases hm : m = n
      · rw [if_pos hm, if_pos hm, if_neg (by rw [hm]; exact hx)]
      · rw [if_neg hm, if_neg hm]
def updV (V : Nm → Option (List Int)) (n : Nm) (d : Option (List Int)) : Nm → Option (List Int) := fun m => if m = n then d else V m
def plainV (V : Nm → Option (List Int)) (s : Stp) : Nm → Option (List Int) :=
  if s.kind = 1 then match V (nameS s.i) with | none => updV V (nameS s.i) (some []) | some _ => V
  else if s.kind = 2 then match V (nameS s.i) with | some d => updV V (nameS s.i) (some (d ++ bytS s)) | none => V
  else if s.kind = 4 then match V (nameS s.i) with
    | some d => if nameS s.i ≠ nameS s.k then updV (updV V (nameS s.i) none) (nameS s.k) (some d) else V
    | none => V
  else if s.kind = 5 then updV V (nameS s.i) none else V
theorem nd_snoc {L : List Flp} (nd : Nd L) {n : Nm} (h : lkp L n = none) (d : List Int) : Nd (L ++ [(n, d)]) := by
  unfold Nd at *
  rw [List.map_append, List.nodup_append]
  refine ⟨nd, by simp, ?_⟩
  rintro a ha _ hb
  simp only [List.map_cons, List.map_nil, List.mem_singleton] at hb
  subst hb
  obtain ⟨x, hx, rfl⟩ := List.mem_map.1 ha
  exact look_none.1 h x hx
theorem look_plain {L : List Flp} (nd : Nd L) (s : Stp) : lkp (plainS L s) = plainV (lkp L) s ∧ Nd (plainS L s) := by
  unfold plainS plainV
  by_cases h1 : s.kind = 1
  · rw [if_pos h1, if_pos h1]
    cases h : hasN L (nameS s.i) with
    | none =>
      have hl := hasN_none.1 h
      rw [hl]
      refine ⟨funext fun m => ?_, nd_snoc nd hl _⟩
      show lkp (L ++ [(nameS s.i, [])]) m = updV (lkp L) (nameS s.i) (some []) m
      rw [look_append, look_cons, look_nil]
      unfold updV
      by_cases hm : m = nameS s.i
      · subst hm; rw [hl]; simp
      · rw [if_neg hm, if_neg (fun e => hm e.symm)]; simp
    | some i =>
      obtain ⟨d, _, hl⟩ := hasN_some h
      rw [hl]
      exact ⟨rfl, nd⟩
  rw [if_neg h1, if_neg h1]
  by_cases h2 : s.kind = 2
  · rw [if_pos h2, if_pos h2]
    cases h : hasN L (nameS s.i) with
    | none => rw [hasN_none.1 h]; exact ⟨rfl, nd⟩
    | some i =>
      obtain ⟨d, _, hl⟩ := hasN_some h
      obtain ⟨k1, k2⟩ := mod_has nd h (bytS s)
      rw [hl]
      refine ⟨funext fun m => ?_, k2⟩
      rw [k1 m, hl]
      rfl
  rw [if_neg h2, if_neg h2]
  by_cases h4 : s.kind = 4
  · rw [if_pos h4, if_pos h4]
    cases h : hasN L (nameS s.i) with
    | none => rw [hasN_none.1 h]; exact ⟨rfl, nd⟩
    | some i =>
      obtain ⟨d, hi, hl⟩ := hasN_some h
      rw [hl]
      simp only
      by_cases hne : nameS s.i ≠ nameS s.k
      · rw [if_pos hne, if_pos hne]
        have e1 : dropL L (i : Int) = without L (nameS s.i) := by unfold dropL; rw [if_pos (by omega), Int.toNat_natCast, drop_has nd h]
        have nd1 := without_nd nd (nameS s.i)
        have nd2 := without_nd nd1 (nameS s.k)
        rw [e1, dropL_has nd1]
        have e2 : (L.getD i (emptyNm, [])).2 = d := by rw [List.getD_eq_getElem?_getD, hi]; rfl
        rw [e2]
        refine ⟨funext fun m => ?_, nd_snoc nd2 (by rw [look_without, if_pos rfl]) _⟩
        rw [look_append, look_without, look_without, look_cons, look_nil]
        unfold updV
        by_cases hm : m = nameS s.k
        · subst hm; simp
        · rw [if_neg hm, if_neg hm]
          by_cases hm2 : m = nameS s.i
          · rw [if_pos hm2, if_neg (fun e => hm e.symm)]; rfl
          · rw [if_neg hm2, if_neg (fun e => hm e.symm)]; rw [Option.or_none]
      · rw [if_neg hne, if_neg hne]; exact ⟨rfl, nd⟩
  rw [if_neg h4, if_neg h4]
  by_cases h5 : s.kind = 5
  · rw [if_pos h5, if_pos h5, dropL_has nd]
    exact ⟨funext fun m => look_without L _ m, without_nd nd _⟩
  · rw [if_neg h5, if_neg h5]; exact ⟨rfl, nd⟩
/-! ### The file system -/
noncomputable def doesS (s : St) (t : Stp) (x : Nat) : St × Int :=
  if t.kind = 1 then createS s (nameS t.i) x
  else if t.kind = 2 then appendS s (nameS t.i) (bytS t)
  else if t.kind = 3 then syncS s (nameS t.i)
  else if t.kind = 4 then renameS s (nameS t.i) (nameS t.k)
  else if t.kind = 5 then removeS s (nameS t.i)
  else if t.kind = 6 then syncDirS s else (s, 0)
def viewS (s : St) : Nm → Option (List Int) := fun n => (s.now n).map s.dat
theorem begin_nm {s : St} {ns : List Nm} (h : ∀ n ∈ ns, isNm n = true) : beginS s ns = if s.off then 81 else 0 := by
  unfold beginS
  rw [if_pos]
  rw [List.all_eq_true]
  exact h
theorem count_view (s : St) : viewS (countS s).1 = viewS s := by
  unfold countS viewS
  split
  · split <;> rfl
  · rfl
theorem find_on {s : St} (ho : s.off = false) {n : Nm} (hn : isNm n = true) : findS s n = match s.now n with | none => (none, 82) | some x => (some x, 0) := by
  have hb : beginS s [n] = 0 := by rw [begin_nm (by simpa using hn), ho]; rfl
  unfold findS
  rw [if_neg (by rw [hb]; simp)]
  cases s.now n <;> rfl
theorem count_e (s : St) : (countS s).2 = 0 ∨ (countS s).2 = 81 := by
  unfold countS
  split
  · split
    · exact .inr rfl
    · exact .inl rfl
  · exact .inl rfl
theorem move_view {s : St} (ok : Ok s) {x : Nat} (m : Nm) {n : Nm} (hx : s.now m = some x) : viewS { s with now := moveD s.now x n } = fun k => if k = n ∧ n ≠ emptyNm then some (s.dat x) else if k = m then none else viewS s k := by
  funext k
  unfold viewS moveD
  simp only
  by_cases h1 : k = n ∧ n ≠ emptyNm
  · rw [if_pos h1, if_pos h1]; rfl
  · rw [if_neg h1, if_neg h1]
    by_cases h2 : k = m
    · rw [if_pos h2, h2, if_pos hx]; rfl
    · rw [if_neg h2, if_neg (fun e => h2 (ok.nowI _ _ _ e hx))]
/-- What a step does, the power on: with 0 or 81 what it says, with any other error nothing. -/
theorem does_view {s : St} (ok : Ok s) (ho : s.off = false) (t : Stp) {x : Nat} (hx : x ∉ s.held) :
    (((doesS s t x).2 = 0 ∨ (doesS s t x).2 = 81) ∧ viewS (doesS s t x).1 = plainV (viewS s) t) ∨
    ((doesS s t x).1 = s ∧ (doesS s t x).2 ≠ 0 ∧ (doesS s t x).2 ≠ 81 ∧
      ((doesS s t x).2 = 80 ∧ t.kind = 2 ∧ viewS s (nameS t.i) ≠ none ∧ s.room < heldS s + (bytS t).length ∨ (doesS s t x).2 = 82 ∧ viewS s (nameS t.i) = none ∨ (doesS s t x).2 = 83 ∧ viewS s (nameS t.i) ≠ none ∧ t.kind = 1)) := by
  have n1 := nameS_nm t.i
  have n2 := nameS_nm t.k
  have hb : beginS s [nameS t.i] = 0 := by rw [begin_nm (by simpa using n1), ho]; rfl
  have hb2 : beginS s [nameS t.i, nameS t.k] = 0 := by rw [begin_nm (by simp [n1, n2]), ho]; rfl
  have hnow : ∀ {y : Nat}, s.now (nameS t.i) = some y → viewS s (nameS t.i) = some (s.dat y) := fun h => by unfold viewS; rw [h]; rfl
  have hnone : s.now (nameS t.i) = none → viewS s (nameS t.i) = none := fun h => by unfold viewS; rw [h]; rfl
  unfold doesS plainV
  by_cases h1 : t.kind = 1
  · rw [if_pos h1, if_pos h1]
    unfold createS
    rw [if_neg (by rw [hb]; simp)]
    cases hy : s.now (nameS t.i) with
    | some y =>
      rw [if_pos (by simp)]
      exact .inr ⟨rfl, by simp, by simp, .inr (.inr ⟨rfl, by rw [hnow hy]; simp, h1⟩)⟩
    | none =>
      rw [if_neg (by simp), hnone hy]
      refine .inl ⟨count_e _, ?_⟩
      unfold pendS
      rw [count_view]
      funext k
      unfold viewS updV moveD addS setF
      simp only
      by_cases hk : k = nameS t.i
      · rw [if_pos ⟨hk, nm_ne n1⟩, if_pos hk]; simp
      · rw [if_neg (fun h => hk h.1), if_neg hk]
        cases hz : s.now k with
        | none => simp
        | some z =>
          have : z ≠ x := fun e => hx (e ▸ ok.nowH _ _ hz)
          simp [this]
  rw [if_neg h1, if_neg h1]
  by_cases h2 : t.kind = 2
  · rw [if_pos h2, if_pos h2]
    unfold appendS
    rw [find_on ho n1]
    cases hy : s.now (nameS t.i) with
    | none => exact .inr ⟨rfl, by simp, by simp, .inr (.inl ⟨rfl, hnone hy⟩)⟩
    | some y =>
      simp only
      rw [hnow hy]
      by_cases hr : s.room - heldS s < (bytS t).length
      · rw [if_pos hr]
        exact .inr ⟨rfl, by simp, by simp, .inl ⟨rfl, h2, by simp, by omega⟩⟩
      · rw [if_neg hr]
        refine .inl ⟨count_e _, ?_⟩
        rw [count_view]
        funext k
        unfold viewS updV setF
        simp only
        by_cases hk : k = nameS t.i
        · rw [if_pos hk, hk, hy]; simp
        · rw [if_neg hk]
          cases hz : s.now k with
          | none => simp
          | some z =>
            have : z ≠ y := fun e => hk (ok.nowI _ _ _ hz (e ▸ hy))
            simp [this]
  rw [if_neg h2, if_neg h2]
  by_cases h3 : t.kind = 3
  · rw [if_pos h3, if_neg (by omega), if_neg (by omega)]
    unfold syncS
    rw [find_on ho n1]
    cases hy : s.now (nameS t.i) with
    | none => exact .inr ⟨rfl, by simp, by simp, .inr (.inl ⟨rfl, hnone hy⟩)⟩
    | some y =>
      left
      simp only
      by_cases hc : (countS s).2 = 0
      · rw [if_pos hc]
        exact ⟨.inl rfl, count_view s⟩
      · rw [if_neg hc]
        exact ⟨count_e s, count_view s⟩
  rw [if_neg h3]
  by_cases h4 : t.kind = 4
  · rw [if_pos h4, if_pos h4]
    unfold renameS
    rw [if_neg (by rw [hb2]; simp)]
    cases hy : s.now (nameS t.i) with
    | none => exact .inr ⟨rfl, by simp, by simp, .inr (.inl ⟨rfl, hnone hy⟩)⟩
    | some y =>
      left
      simp only
      rw [hnow hy]
      refine ⟨count_e _, ?_⟩
      unfold pendS
      rw [count_view]
      refine (show viewS { s with now := moveD s.now y (nameS t.k), pend := s.pend ++ [(y, nameS t.k)] } = viewS { s with now := moveD s.now y (nameS t.k) } from rfl).trans ((move_view ok (nameS t.i) hy).trans ?_)
      funext k
      simp only
      by_cases hne : nameS t.i ≠ nameS t.k
      · rw [if_pos hne]
        unfold updV
        by_cases hk : k = nameS t.k
        · rw [if_pos ⟨hk, nm_ne n2⟩, if_pos hk]
        · rw [if_neg (fun h => hk h.1), if_neg hk]
      · have hne : nameS t.i = nameS t.k := Classical.not_not.1 hne
        have e0 : (if nameS t.i ≠ nameS t.k then updV (updV (viewS s) (nameS t.i) none) (nameS t.k) (some (s.dat y)) else viewS s) = viewS s := if_neg (fun h => h hne)
        rw [e0]
        by_cases hk : k = nameS t.k
        · rw [if_pos ⟨hk, nm_ne n2⟩, hk, ← hne, hnow hy]
        · rw [if_neg (fun h => hk h.1), if_neg (by rw [hne]; exact hk)]
  rw [if_neg h4, if_neg h4]
  by_cases h5 : t.kind = 5
  · rw [if_pos h5, if_pos h5]
    unfold removeS
    rw [find_on ho n1]
    cases hy : s.now (nameS t.i) with
    | none => exact .inr ⟨rfl, by simp, by simp, .inr (.inl ⟨rfl, hnone hy⟩)⟩
    | some y =>
      left
      simp only
      refine ⟨count_e _, ?_⟩
      unfold pendS
      rw [count_view]
      refine (show viewS { s with now := moveD s.now y emptyNm, pend := s.pend ++ [(y, emptyNm)] } = viewS { s with now := moveD s.now y emptyNm } from rfl).trans ((move_view ok (nameS t.i) hy).trans ?_)
      funext k
      rw [if_neg (fun h => h.2 rfl)]
      rfl
  rw [if_neg h5, if_neg h5]
  by_cases h6 : t.kind = 6
  · rw [if_pos h6]
    left
    unfold syncDirS
    rw [if_neg (by simp [ho])]
    by_cases hc : (countS s).2 = 0
    · rw [if_pos hc]
      exact ⟨.inl rfl, count_view s⟩
    · rw [if_neg hc]
      exact ⟨count_e s, count_view s⟩
  · rw [if_neg h6]
    exact .inl ⟨.inl rfl, rfl⟩
end Go.V
