/- A directory as a list by rising names: with, told. -/
import Derived.Test.YtmkheogjnlmkdaaVRfP
import Derived.Test.YtmkheogjnlmkdaaVFsH
import Derived.Test.YtmkheogjnlmkdaaVRfN
set_option linter.unusedSimpArgs false
set_option linter.unusedVariables false
set_option maxRecDepth 20000
namespace Go.V
open Go Go.Proofs
theorem with_true {n : Nm} {x : Nat} : ∀ (es l : List En), es.foldl (withStep n x) (l, true) = (l ++ es.filter (fun e => decide (e.1 ≠ n)), true)
  | [], l => by simp
  | e :: es, l => by
    have h : withStep n x (l, true) e = (l ++ (if e.1 = n then [] else [e]), true) := by unfold withStep; simp
    rw [List.foldl_cons, h, with_true es]
    by_cases he : e.1 = n <;> simp [he]
def withQ (n : Nm) (x : Nat) (q : List En × Bool) : List En := q.1 ++ if q.2 then [] else [(n, x)]
theorem withQ_out {n : Nm} {x : Nat} : ∀ (es l : List En), withQ n x (es.foldl (withStep n x) (l, false)) = l ++ withQ n x (es.foldl (withStep n x) ([], false))
  | [], l => by simp [withQ]
  | e :: es, l => by
    rw [List.foldl_cons, List.foldl_cons]
    cases hq : leN n e.1 with
    | true =>
      have h : ∀ l, withStep n x (l, false) e = (l ++ [(n, x)] ++ (if e.1 = n then [] else [e]), true) := fun l => by unfold withStep; simp [hq]
      rw [h, h, with_true, with_true]
      simp [withQ]
    | false =>
      have h : ∀ l, withStep n x (l, false) e = (l ++ (if e.1 = n then [] else [e]), false) := fun l => by unfold withStep; simp [hq]
      rw [h, h, withQ_out es, withQ_out es ([] ++ _)]
      simp
theorem withE_nil (n : Nm) (x : Nat) : withE [] n x = [(n, x)] := rfl
theorem withE_cons (e : En) (es : List En) (n : Nm) (x : Nat) : withE (e :: es) n x =
    if leN n e.1 = true then (n, x) :: ((if e.1 = n then [] else [e]) ++ es.filter fun e => decide (e.1 ≠ n)) else (if e.1 = n then [] else [e]) ++ withE es n x := by
  show withQ n x ((e :: es).foldl (withStep n x) ([], false)) = _
  rw [List.foldl_cons]
  cases hq : leN n e.1 with
  | true =>
    have h : withStep n x ([], false) e = ([(n, x)] ++ (if e.1 = n then [] else [e]), true) := by unfold withStep; simp [hq]
    rw [h, with_true, if_pos rfl]
    simp [withQ]
  | false =>
    have h : withStep n x ([], false) e = ((if e.1 = n then [] else [e]), false) := by unfold withStep; simp [hq]
    rw [h, withQ_out, if_neg Bool.false_ne_true]
    rfl
theorem leN_self (n : Nm) : leN n n = true := by unfold leN; simp
theorem leN_of {a b : Nm} : leN a b = true ↔ a.data.toList < b.data.toList ∨ a = b := by
  unfold leN
  rw [bytesLess_eq, str_dec, toList_data, toList_data, Bool.or_eq_true, decide_eq_true_eq, decide_eq_true_eq]
theorem withE_iff {n : Nm} {x : Nat} {f : En} : ∀ {es : List En}, f ∈ withE es n x ↔ f = (n, x) ∨ (f ∈ es ∧ f.1 ≠ n)
  | [] => by rw [withE_nil]; simp
  | e :: es => by
    rw [withE_cons]
    split
    · by_cases he : e.1 = n
      · rw [if_pos he]
        simp only [List.nil_append, List.mem_cons, List.mem_filter, decide_eq_true_eq]
        constructor
        · rintro (h | ⟨h1, h2⟩)
          · exact .inl h
          · exact .inr ⟨.inr h1, h2⟩
        · rintro (h | ⟨h1 | h1, h2⟩)
          · exact .inl h
          · exact absurd (h1 ▸ he) h2
          · exact .inr ⟨h1, h2⟩
      · rw [if_neg he]
        simp only [List.cons_append, List.nil_append, List.mem_cons, List.mem_filter, decide_eq_true_eq]
        constructor
        · rintro (h | h | ⟨h1, h2⟩)
          · exact .inl h
          · exact .inr ⟨.inl h, by rw [h]; exact he⟩
          · exact .inr ⟨.inr h1, h2⟩
        · rintro (h | ⟨h1 | h1, h2⟩)
          · exact .inl h
          · exact .inr (.inl h1)
          · exact .inr (.inr ⟨h1, h2⟩)
    · rename_i hl
      have he : e.1 ≠ n := fun h => hl (by rw [h]; exact leN_self n)
      rw [if_neg he, List.mem_append, withE_iff (es := es), List.mem_singleton, List.mem_cons]
      constructor
      · rintro (h | h | ⟨h1, h2⟩)
        · exact .inr ⟨.inl h, by rw [h]; exact he⟩
        · exact .inl h
        · exact .inr ⟨.inr h1, h2⟩
      · rintro (h | ⟨h1 | h1, h2⟩)
        · exact .inr (.inl h)
        · exact .inl h1
        · exact .inr (.inr ⟨h1, h2⟩)
abbrev Ris (es : List En) : Prop := es.Pairwise fun a b => a.1.data.toList < b.1.data.toList
theorem nm_ext {a b : Nm} (h : a.data.toList = b.data.toList) : a = b := by
  cases a; cases b
  congr 1
  exact Array.toList_inj.1 h
theorem withE_ris {n : Nm} {x : Nat} : ∀ {es : List En}, Ris es → Ris (withE es n x)
  | [], _ => by rw [withE_nil]; exact List.pairwise_singleton _ _
  | e :: es, h => by
    obtain ⟨h1, h2⟩ := List.pairwise_cons.1 h
    rw [withE_cons]
    split
    · rename_i hl
      have hf : Ris (es.filter fun e => decide (e.1 ≠ n)) := h2.filter _
      rcases leN_of.1 hl with hlt | heq
      · have he : e.1 ≠ n := fun hh => by rw [hh] at hlt; exact List.lt_irrefl _ hlt
        rw [if_neg he]
        refine List.pairwise_cons.2 ⟨fun f hf2 => ?_, List.pairwise_cons.2 ⟨fun f hf2 => h1 f (List.mem_filter.1 hf2).1, hf⟩⟩
        rcases List.mem_cons.1 hf2 with rfl | hf2
        · exact hlt
        · exact List.lt_trans hlt (h1 f (List.mem_filter.1 hf2).1)
      · rw [if_pos heq.symm]
        refine List.pairwise_cons.2 ⟨fun f hf2 => ?_, hf⟩
        show n.data.toList < _
        rw [heq]
        exact h1 f (List.mem_filter.1 hf2).1
    · rename_i hl
      have he : e.1 ≠ n := fun hh => hl (by rw [hh]; exact leN_self n)
      rw [if_neg he]
      refine List.pairwise_cons.2 ⟨fun f hf2 => ?_, withE_ris h2⟩
      rcases withE_iff.1 hf2 with rfl | ⟨hf2, _⟩
      · have h3 : ¬ n.data.toList < e.1.data.toList := fun hh => hl (leN_of.2 (.inl hh))
        have h4 : ¬ n.data.toList = e.1.data.toList := fun hh => he (nm_ext hh).symm
        rcases Classical.em (e.1.data.toList < n.data.toList) with h5 | h5
        · exact h5
        · exact absurd (List.le_antisymm (List.not_lt.1 h5) (List.not_lt.1 h3)) h4
      · exact h1 f hf2
/-- The list of a directory, its files told by their numbers. -/
structure DirL (φ : Nat → Nat) (D : Dir) (es : List En) : Prop where
  ris : Ris es
  mem : ∀ n k, (n, k) ∈ es ↔ ∃ f, D n = some f ∧ k = φ f
theorem DirL.told {φ : Nat → Nat} {D : Dir} {es : List En} {x : Nat} {n : Nm} (h : DirL φ D es) (hφ : ∀ m f, D m = some f → φ f = φ x → f = x) : DirL φ (moveD D x n) (toldE es (φ x) n) := by
  have ho : ∀ m k, (m, k) ∈ outE es (φ x) ↔ ∃ f, D m = some f ∧ k = φ f ∧ f ≠ x := fun m k => by
    unfold outE
    rw [List.mem_filter, h.mem]
    simp only [decide_eq_true_eq]
    constructor
    · rintro ⟨⟨f, h1, h2⟩, h3⟩
      exact ⟨f, h1, h2, fun e => h3 (by rw [h2, e])⟩
    · rintro ⟨f, h1, h2, h3⟩
      exact ⟨⟨f, h1, h2⟩, fun e => h3 (hφ m f h1 (by rw [← h2, e]))⟩
  have hr : Ris (outE es (φ x)) := h.ris.filter _
  unfold toldE
  by_cases hn : n = emptyNm
  · rw [if_pos hn]
    refine ⟨hr, fun m k => ?_⟩
    rw [ho]
    constructor
    · rintro ⟨f, h1, h2, h3⟩
      exact ⟨f, by unfold moveD; rw [if_neg (fun c => c.2 hn), if_neg (by rw [h1]; simpa using h3)]; exact h1, h2⟩
    · rintro ⟨f, h1, h2⟩
      unfold moveD at h1
      rw [if_neg (fun c => c.2 hn)] at h1
      split at h1
      · cases h1
      · rename_i h3
        exact ⟨f, h1, h2, fun e => h3 (by rw [h1, e])⟩
  · rw [if_neg hn]
    refine ⟨withE_ris hr, fun m k => ?_⟩
    rw [withE_iff, ho]
    by_cases hm : m = n
    · subst hm
      constructor
      · rintro (e | ⟨_, h2⟩)
        · cases e
          exact ⟨x, by unfold moveD; rw [if_pos ⟨rfl, hn⟩], rfl⟩
        · exact absurd rfl h2
      · rintro ⟨f, h1, h2⟩
        unfold moveD at h1
        rw [if_pos ⟨rfl, hn⟩] at h1
        cases h1
        rw [h2]; exact .inl rfl
    · constructor
      · rintro (e | ⟨⟨f, h1, h2, h3⟩, _⟩)
        · cases e; exact absurd rfl hm
        · exact ⟨f, by unfold moveD; rw [if_neg (fun c => hm c.1), if_neg (by rw [h1]; simpa using h3)]; exact h1, h2⟩
      · rintro ⟨f, h1, h2⟩
        unfold moveD at h1
        rw [if_neg (fun c => hm c.1)] at h1
        split at h1
        · cases h1
        · rename_i h3
          exact .inr ⟨⟨f, h1, h2, fun e => h3 (by rw [h1, e])⟩, hm⟩
end Go.V
namespace Go.V
open Go Go.Proofs
structure Sim8 (φ : Nat → Nat) (s : St) (r : RSt) : Prop where
  most : r.most = s.room
  off : r.off = s.off
  arm : r.armed = s.fuse
  cnt : r.count = s.ops
  inj : ∀ f ∈ s.held, ∀ g ∈ s.held, φ f = φ g → f = g
  fil : ∀ f ∈ s.held, r.files[φ f]? = some (s.dat f, s.syn f)
  pend : r.pend = s.pend.map fun p => (φ p.1, p.2)
  dirs : ∃ Ds : List Dir, Ds.length = s.pend.length + 1 ∧ Ds[0]? = some s.last ∧ Ds[Ds.length - 1]? = some s.now ∧ All2 (DirL φ) Ds r.dirs ∧
    (∀ D ∈ Ds, ∀ n f, D n = some f → f ∈ s.held) ∧ ∀ f ∈ s.held, ∃ D ∈ Ds, ∃ n, D n = some f
theorem Sim8.now {φ : Nat → Nat} {s : St} {r : RSt} (h : Sim8 φ s r) : DirL φ s.now r.now ∧ r.dirs.length = s.pend.length + 1 := by
  obtain ⟨Ds, h1, h2, h3, h4, h5, h6⟩ := h.dirs
  have hl := h4.length
  obtain ⟨es, he, hd⟩ := All2.getL' h4 h3
  refine ⟨?_, by omega⟩
  have : r.now = es := by unfold RSt.now; rw [List.getD_eq_getElem?_getD, ← hl, he]; rfl
  rw [this]; exact hd
theorem Sim8.setCnt {φ : Nat → Nat} {s s' : St} {r r' : RSt} (h : Sim8 φ s r) (e1 : s'.room = s.room) (e2 : s'.held = s.held) (e3 : s'.dat = s.dat) (e4 : s'.syn = s.syn) (e5 : s'.pend = s.pend) (e6 : s'.last = s.last) (e7 : s'.now = s.now)
    (f1 : r'.most = r.most) (f2 : r'.files = r.files) (f3 : r'.pend = r.pend) (f4 : r'.dirs = r.dirs) (g1 : r'.off = s'.off) (g2 : r'.armed = s'.fuse) (g3 : r'.count = s'.ops) : Sim8 φ s' r' :=
  ⟨by rw [f1, e1]; exact h.most, g1, g2, g3, by rw [e2]; exact h.inj, by rw [e2, f2, e3, e4]; exact h.fil, by rw [f3, e5]; exact h.pend, by rw [e2, e5, e6, e7, f4]; exact h.dirs⟩
theorem Sim8.count {φ : Nat → Nat} {s : St} {r : RSt} (h : Sim8 φ s r) (hf : 0 ≤ s.fuse) (ho : s.off = false) : Sim8 φ (countS s).1 (powerR r).1 ∧ (powerR r).2 = (countS s).2 := by
  have ha := h.arm
  have hc := h.cnt
  have hro : r.off = false := by rw [h.off]; exact ho
  unfold powerR failsR countS
  by_cases c0 : r.armed = 0
  · rw [if_pos c0, if_neg (by omega)]
    exact ⟨h.setCnt rfl rfl rfl rfl rfl rfl rfl rfl rfl rfl rfl h.off ha (by show r.count + 1 = s.ops + 1; omega), rfl⟩
  · rw [if_neg c0, if_pos (by omega)]
    by_cases c1 : s.fuse = 1
    · rw [if_pos c1]
      have : r.armed = 1 := by omega
      refine ⟨h.setCnt rfl rfl rfl rfl rfl rfl rfl rfl rfl rfl rfl ?_ ?_ ?_, ?_⟩
      · simp [this]
      · show r.armed - 1 = 0; omega
      · show r.count + 1 = s.ops + 1; omega
      · simp [this]
    · rw [if_neg c1]
      have : r.armed ≠ 1 := by omega
      refine ⟨h.setCnt rfl rfl rfl rfl rfl rfl rfl rfl rfl rfl rfl ?_ ?_ ?_, ?_⟩
      · simp [this, hro, ho]
      · show r.armed - 1 = s.fuse - 1; omega
      · show r.count + 1 = s.ops + 1; omega
      · simp [this, hro]
theorem Sim8.does {φ : Nat → Nat} {s : St} {r : RSt} (h : Sim8 φ s r) {x : Nat} (hx : x ∈ s.held) (n : Nm) :
    Sim8 φ { s with now := moveD s.now x n, pend := s.pend ++ [(x, n)] } { r with pend := r.pend ++ [(φ x, n)], dirs := r.dirs ++ [toldE r.now (φ x) n] } := by
  obtain ⟨hn, hl⟩ := h.now
  obtain ⟨Ds, h1, h2, h3, h4, h5, h6⟩ := h.dirs
  have hnow : s.now ∈ Ds := List.mem_of_getElem? h3
  refine ⟨h.most, h.off, h.arm, h.cnt, h.inj, h.fil, by show _ = List.map _ (s.pend ++ [(x, n)]); rw [List.map_append, ← h.pend]; rfl, Ds ++ [moveD s.now x n], by simp [h1], ?_, ?_, ?_, ?_, ?_⟩
  · rw [List.getElem?_append_left (by omega)]; exact h2
  · simp
  · exact All2.snoc (hn.told fun m f hm => h.inj f (h5 _ hnow m f hm) x hx) h4
  · intro D hD m f hm
    rcases List.mem_append.1 hD with hD | hD
    · exact h5 D hD m f hm
    · simp only [List.mem_singleton] at hD
      subst hD
      unfold moveD at hm
      split at hm
      · cases hm; exact hx
      · split at hm
        · cases hm
        · exact h5 _ hnow m f hm
  · intro f hf
    obtain ⟨D, hD, m, hm⟩ := h6 f hf
    exact ⟨D, List.mem_append_left _ hD, m, hm⟩
end Go.V
namespace Go.V
open Go Go.Proofs
theorem lookE_some {es : List En} {n : Nm} {x : Nat} (h : lookE es n = some x) : (n, x) ∈ es := by
  unfold lookE at h
  rw [Option.map_eq_some_iff] at h
  obtain ⟨e, he, rfl⟩ := h
  have h1 := List.find?_some he
  have h2 := List.mem_of_find?_eq_some he
  simp only [decide_eq_true_eq] at h1
  rw [← h1]; exact h2
theorem DirL.look {φ : Nat → Nat} {D : Dir} {es : List En} (h : DirL φ D es) (n : Nm) : lookE es n = (D n).map φ := by
  cases hl : lookE es n with
  | some x =>
    obtain ⟨f, h1, h2⟩ := (h.mem n x).1 (lookE_some hl)
    rw [h1, h2]; rfl
  | none =>
    cases hd : D n with
    | none => rfl
    | some f =>
      have hm := (h.mem n (φ f)).2 ⟨f, hd, rfl⟩
      unfold lookE at hl
      rw [Option.map_eq_none_iff, List.find?_eq_none] at hl
      exact absurd (decide_eq_true rfl) (hl _ hm)
end Go.V
namespace Go.Proofs.Ytmkheogjnlmkdaa
open Go Go.V
theorem _root_.Go.V.Sim8.begin {φ : Nat → Nat} {s : St} {r : RSt} (h : Sim8 φ s r) (n : Nm) : beginR r n = beginS s [n] := by
  rw [begin_eq]; unfold beginR; rw [h.off]
theorem _root_.Go.V.Sim8.file {φ : Nat → Nat} {s : St} {r : RSt} (h : Sim8 φ s r) {f : Nat} (hf : f ∈ s.held) : fileR r (φ f) = (s.dat f, s.syn f) := by
  unfold fileR; rw [List.getD_eq_getElem?_getD, h.fil f hf]; rfl
theorem beginS_on {s : St} {n : Nm} {l : List Nm} (h : beginS s (n :: l) = 0) : s.off = false := by
  unfold beginS at h
  cases ho : s.off with
  | false => rfl
  | true => rw [ho] at h; split at h <;> simp at h
theorem _root_.Go.V.Sim8.doesR {φ : Nat → Nat} {s : St} {r : RSt} (h : Sim8 φ s r) (ok : Ok s) (ho : s.off = false) {x : Nat} (hx : x ∈ s.held) (n : Nm) : Sim8 φ (pendS s x n).1 (V.doesR r (φ x) n).1 ∧ (V.doesR r (φ x) n).2 = (pendS s x n).2 :=
  V.Sim8.count (h.does hx n) ok.fuse.1 ho
theorem _root_.Go.V.Sim8.remove {φ : Nat → Nat} {s : St} {r : RSt} (h : Sim8 φ s r) (ok : Ok s) (n : Nm) : Sim8 φ (removeS s n).1 (removeR r n).1 ∧ (removeR r n).2 = (removeS s n).2 := by
  unfold removeR removeS findS
  rw [h.begin n]
  by_cases c0 : beginS s [n] = 0
  · rw [if_neg (by simp [c0]), if_neg (by simp [c0]), h.now.1.look n]
    cases hd : s.now n with
    | none => exact ⟨h, rfl⟩
    | some f => exact h.doesR ok (beginS_on c0) (ok.nowH _ _ hd) emptyNm
  · rw [if_pos c0, if_pos c0]
    exact ⟨h, rfl⟩
theorem _root_.Go.V.Sim8.size {φ : Nat → Nat} {s : St} {r : RSt} (h : Sim8 φ s r) (ok : Ok s) (n : Nm) : sizeR r n = sizeS s n := by
  unfold sizeR sizeS findS
  rw [h.begin n]
  by_cases c0 : beginS s [n] = 0
  · rw [if_neg (by simp [c0]), if_neg (by simp [c0]), h.now.1.look n]
    cases hd : s.now n with
    | none => rfl
    | some f => simp only [Option.map_some]; rw [h.file (ok.nowH _ _ hd)]
  · rw [if_pos c0, if_pos c0]
theorem _root_.Go.V.Sim8.read {φ : Nat → Nat} {s : St} {r : RSt} (h : Sim8 φ s r) (ok : Ok s) (n : Nm) (a k : Int) : readR r n a k = readS s n a k := by
  unfold readR readS findS
  rw [h.begin n]
  by_cases c0 : beginS s [n] = 0
  · rw [if_neg (by simp [c0]), if_neg (by simp [c0]), h.now.1.look n]
    cases hd : s.now n with
    | none => rfl
    | some f => simp only [Option.map_some]; rw [h.file (ok.nowH _ _ hd)]
  · rw [if_pos c0, if_pos c0]
theorem _root_.Go.V.Sim8.arm8 {φ : Nat → Nat} {s : St} {r : RSt} (h : Sim8 φ s r) (k : Int) : Sim8 φ (armS s k).1 (armR r k).1 ∧ (armR r k).2 = (armS s k).2 := by
  unfold armR armS
  rw [h.off]
  by_cases c0 : k < 0
  · rw [if_pos c0, if_pos c0]; exact ⟨h, rfl⟩
  · rw [if_neg c0, if_neg c0]
    cases ho : s.off with
    | true => exact ⟨h, rfl⟩
    | false => exact ⟨h.setCnt rfl rfl rfl rfl rfl rfl rfl rfl rfl rfl rfl rfl rfl h.cnt, rfl⟩
end Go.Proofs.Ytmkheogjnlmkdaa
namespace Go.Proofs.Ytmkheogjnlmkdaa
open Go Go.V
theorem _root_.Go.V.Sim8.rename {φ : Nat → Nat} {s : St} {r : RSt} (h : Sim8 φ s r) (ok : Ok s) (n m : Nm) : Sim8 φ (renameS s n m).1 (renameR r n m).1 ∧ (renameR r n m).2 = (renameS s n m).2 := by
  unfold renameR renameS
  cases hm : isNm m with
  | false =>
    have e : beginS s [n, m] = 84 := by unfold beginS; simp [hm]
    rw [if_pos rfl, if_pos (by rw [e]; decide), e]
    exact ⟨h, rfl⟩
  | true =>
    have e : beginS s [n, m] = beginS s [n] := by unfold beginS; simp [hm]
    rw [e, h.begin n, if_neg (show ¬ (true = false) by decide)]
    by_cases c0 : beginS s [n] = 0
    · rw [if_neg (by simp [c0]), if_neg (by simp [c0]), h.now.1.look n]
      cases hd : s.now n with
      | none => exact ⟨h, rfl⟩
      | some f => exact h.doesR ok (beginS_on c0) (ok.nowH _ _ hd) m
    · rw [if_pos c0, if_pos c0]
      exact ⟨h, rfl⟩
/-- A file's bytes turned. -/
theorem _root_.Go.V.Sim8.setFile {φ : Nat → Nat} {s : St} {r : RSt} (h : Sim8 φ s r) {x : Nat} (hx : x ∈ s.held) (d : List Int) (y : Nat) : Sim8 φ { s with dat := setF s.dat x d, syn := setF s.syn x y } { r with files := r.files.set (φ x) (d, y) } := by
  refine ⟨h.most, h.off, h.arm, h.cnt, h.inj, fun f hf => ?_, h.pend, h.dirs⟩
  have hl := (List.getElem?_eq_some_iff.1 (h.fil x hx)).1
  show (r.files.set (φ x) (d, y))[φ f]? = some (setF s.dat x d f, setF s.syn x y f)
  unfold setF
  by_cases e : f = x
  · subst e
    rw [if_pos rfl, if_pos rfl, List.getElem?_set_self hl]
  · rw [if_neg e, if_neg e, List.getElem?_set_ne fun e2 => e (h.inj f hf x hx e2.symm)]
    exact h.fil f hf
end Go.Proofs.Ytmkheogjnlmkdaa
namespace Go.Proofs.Ytmkheogjnlmkdaa
open Go Go.V
theorem count_keep (s : St) : (countS s).1.held = s.held ∧ (countS s).1.dat = s.dat ∧ (countS s).1.syn = s.syn := by
  unfold countS; split
  · split <;> exact ⟨rfl, rfl, rfl⟩
  · exact ⟨rfl, rfl, rfl⟩
theorem fails_files (r : RSt) : (failsR r).1.files = r.files := by unfold failsR; split <;> rfl
theorem _root_.Go.V.Sim8.rot {φ : Nat → Nat} {s : St} {r : RSt} (h : Sim8 φ s r) (ok : Ok s) (n : Nm) (a x : Int) : Sim8 φ (rotS s n a x).1 (rotR r n a x).1 ∧ (rotR r n a x).2 = (rotS s n a x).2 := by
  unfold rotR rotS
  cases hn : isNm n with
  | false =>
    rw [if_pos rfl, if_neg (by decide)]
    exact ⟨h, rfl⟩
  | true =>
    rw [if_neg (show ¬ (true = false) by decide), if_pos (show true = true from rfl), h.now.1.look n]
    cases hd : s.now n with
    | none => exact ⟨h, rfl⟩
    | some f =>
      have hf := ok.nowH _ _ hd
      simp only [Option.map_some]
      rw [h.file hf]
      by_cases hc : a < 0 ∨ ((s.dat f).length : Int) ≤ a ∨ x < 1 ∨ 255 < x
      · rw [if_pos hc, if_pos hc]; exact ⟨h, rfl⟩
      · rw [if_neg hc, if_neg hc]
        have := h.setFile hf (rotD (s.dat f) a.toNat x) (s.syn f)
        rw [setF_self] at this
        exact ⟨this, rfl⟩
theorem _root_.Go.V.Sim8.sync {φ : Nat → Nat} {s : St} {r : RSt} (h : Sim8 φ s r) (ok : Ok s) (n : Nm) : Sim8 φ (syncS s n).1 (syncR r n).1 ∧ (syncR r n).2 = (syncS s n).2 := by
  unfold syncR syncS findS
  rw [h.begin n]
  by_cases c0 : beginS s [n] = 0
  · rw [if_neg (by simp [c0]), if_neg (by simp [c0]), h.now.1.look n]
    cases hd : s.now n with
    | none => exact ⟨h, rfl⟩
    | some f =>
      have hf := ok.nowH _ _ hd
      obtain ⟨k1, k2⟩ := V.Sim8.count h ok.fuse.1 (beginS_on c0)
      obtain ⟨e1, e2, e3⟩ := count_keep s
      have k1' : Sim8 φ (countS s).1 (failsR r).1 := k1
      have k2' : (if (failsR r).2 then (81 : Int) else 0) = (countS s).2 := k2
      simp only [Option.map_some]
      rw [h.file hf]
      cases hb : (failsR r).2 with
      | true =>
        rw [hb] at k2'
        have c2 : (countS s).2 = 81 := k2'.symm
        rw [if_pos rfl, if_neg (by rw [c2]; decide)]
        exact ⟨k1', c2.symm⟩
      | false =>
        rw [hb] at k2'
        have c2 : (countS s).2 = 0 := k2'.symm
        rw [if_neg (show ¬ (false = true) by decide), if_pos c2]
        have := k1'.setFile (x := f) (by rw [e1]; exact hf) ((countS s).1.dat f) (s.dat f).length
        rw [setF_self, fails_files, e2, e3] at this
        rw [e2]
        exact ⟨this, rfl⟩
  · rw [if_pos c0, if_pos c0]
    exact ⟨h, rfl⟩
end Go.Proofs.Ytmkheogjnlmkdaa
namespace Go.Proofs.Ytmkheogjnlmkdaa
open Go Go.V
theorem DirL.congr {φ ψ : Nat → Nat} {D : Dir} {es : List En} (h : DirL φ D es) (he : ∀ n f, D n = some f → ψ f = φ f) : DirL ψ D es := by
  refine ⟨h.ris, fun n k => ?_⟩
  rw [h.mem]
  constructor
  · rintro ⟨f, h1, h2⟩; exact ⟨f, h1, by rw [h2, he n f h1]⟩
  · rintro ⟨f, h1, h2⟩; exact ⟨f, h1, by rw [h2, he n f h1]⟩
theorem all2_memL {α β : Type} {R S : α → β → Prop} : ∀ {l : List α} {m : List β}, (∀ a ∈ l, ∀ b, R a b → S a b) → All2 R l m → All2 S l m
  | [], [], _, _ => trivial
  | a :: l, b :: m, h, k => ⟨h a List.mem_cons_self b k.1, all2_memL (fun a ha => h a (List.mem_cons_of_mem _ ha)) k.2⟩
  | [], _ :: _, _, k => k.elim
  | _ :: _, [], _, k => k.elim
theorem _root_.Go.V.Sim8.congr {φ ψ : Nat → Nat} {s : St} {r : RSt} (h : Sim8 φ s r) (ok : Ok s) (he : ∀ f ∈ s.held, ψ f = φ f) : Sim8 ψ s r := by
  obtain ⟨Ds, h1, h2, h3, h4, h5, h6⟩ := h.dirs
  refine ⟨h.most, h.off, h.arm, h.cnt, fun f hf g hg e => h.inj f hf g hg (by rw [← he f hf, ← he g hg, e]), fun f hf => by rw [he f hf]; exact h.fil f hf, ?_, Ds, h1, h2, h3, all2_memL (fun D hD es hd => DirL.congr hd fun n f hn => he f (h5 D hD n f hn)) h4, h5, h6⟩
  rw [h.pend]
  exact List.map_congr_left fun p hp => by rw [he _ (ok.pendH p hp)]
end Go.Proofs.Ytmkheogjnlmkdaa
namespace Go.Proofs.Ytmkheogjnlmkdaa
open Go Go.V
theorem _root_.Go.V.Sim8.add {φ : Nat → Nat} {s : St} {r : RSt} (h : Sim8 φ s r) {x : Nat} (hx : x ∉ s.held) (hφ : φ x = r.files.length) {n : Nm} (hn : n ≠ emptyNm) :
    Sim8 φ { addS s x with now := moveD s.now x n, pend := s.pend ++ [(x, n)] } { r with files := r.files ++ [([], 0)], pend := r.pend ++ [(φ x, n)], dirs := r.dirs ++ [toldE r.now (φ x) n] } := by
  have hlt : ∀ f ∈ s.held, φ f < r.files.length := fun f hf => (List.getElem?_eq_some_iff.1 (h.fil f hf)).1
  obtain ⟨hd, hl⟩ := h.now
  obtain ⟨Ds, h1, h2, h3, h4, h5, h6⟩ := h.dirs
  have hnow : s.now ∈ Ds := List.mem_of_getElem? h3
  have hin : ∀ f, f ∈ s.held ++ [x] ↔ f ∈ s.held ∨ f = x := fun f => by simp
  refine ⟨h.most, h.off, h.arm, h.cnt, fun f hf g hg e => ?_, fun f hf => ?_, by show _ = List.map _ (s.pend ++ [(x, n)]); rw [List.map_append, ← h.pend]; rfl, Ds ++ [moveD s.now x n], by simp [h1], ?_, by simp, ?_, ?_, ?_⟩
  · rcases (hin f).1 hf with hf1 | hf1 <;> rcases (hin g).1 hg with hg1 | hg1
    · exact h.inj f hf1 g hg1 e
    · have := hlt f hf1; rw [hg1] at e; omega
    · have := hlt g hg1; rw [hf1] at e; omega
    · rw [hf1, hg1]
  · show (r.files ++ [([], 0)])[φ f]? = some (setF s.dat x [] f, setF s.syn x 0 f)
    unfold setF
    rcases (hin f).1 hf with hf1 | hf1
    · have hne : f ≠ x := fun e => hx (e ▸ hf1)
      rw [if_neg hne, if_neg hne, List.getElem?_append_left (hlt f hf1)]
      exact h.fil f hf1
    · rw [hf1, if_pos rfl, if_pos rfl, hφ]; simp
  · rw [List.getElem?_append_left (by omega)]; exact h2
  · exact All2.snoc (hd.told fun m f hm e => absurd e (by have := hlt f (h5 _ hnow m f hm); omega)) h4
  · intro D hD m f hm
    rw [show ({ addS s x with now := moveD s.now x n, pend := s.pend ++ [(x, n)] } : St).held = s.held ++ [x] from rfl, hin]
    rcases List.mem_append.1 hD with hD | hD
    · exact .inl (h5 D hD m f hm)
    · simp only [List.mem_singleton] at hD
      subst hD
      unfold moveD at hm
      split at hm
      · cases hm; exact .inr rfl
      · split at hm
        · cases hm
        · exact .inl (h5 _ hnow m f hm)
  · intro f hf
    rcases (hin f).1 hf with hf1 | hf1
    · obtain ⟨D, hD, m, hm⟩ := h6 f hf1
      exact ⟨D, List.mem_append_left _ hD, m, hm⟩
    · subst hf1
      exact ⟨_, List.mem_append_right _ (List.mem_singleton.2 rfl), n, by unfold moveD; rw [if_pos ⟨rfl, hn⟩]⟩
end Go.Proofs.Ytmkheogjnlmkdaa
namespace Go.Proofs.Ytmkheogjnlmkdaa
open Go Go.V
theorem _root_.Go.V.Sim8.create {φ : Nat → Nat} {s : St} {r : RSt} (h : Sim8 φ s r) (ok : Ok s) {x : Nat} (hx : x ∉ s.held) (n : Nm) :
    Sim8 (fun f => if f = x then r.files.length else φ f) (createS s n x).1 (createR r n).1 ∧ (createR r n).2 = (createS s n x).2 := by
  have hc : Sim8 (fun f => if f = x then r.files.length else φ f) s r := h.congr ok fun f hf => if_neg (fun (e : f = x) => hx (e ▸ hf))
  unfold createR createS
  rw [h.begin n]
  by_cases c0 : beginS s [n] = 0
  · have hk : ¬ (beginS s [n] ≠ 0) := by simp [c0]
    rw [if_neg hk, if_neg hk, h.now.1.look n]
    cases hd : s.now n with
    | some f =>
      rw [if_pos (show some f ≠ none by simp)]
      exact ⟨hc, rfl⟩
    | none =>
      rw [if_neg (show ¬ ((none : Option Nat) ≠ none) by simp)]
      have hn : n ≠ emptyNm := fun e => by
        subst e
        have : beginS s [emptyNm] = 84 := by unfold beginS; rfl
        omega
      have ha := hc.add hx (by simp) hn
      have := V.Sim8.count ha ok.fuse.1 (beginS_on c0)
      simp only [if_true] at this
      exact this
  · rw [if_pos c0, if_pos c0]
    exact ⟨hc, rfl⟩
end Go.Proofs.Ytmkheogjnlmkdaa
namespace Go.Proofs.Ytmkheogjnlmkdaa
open Go Go.V
open Classical in
theorem _root_.Go.V.Sim8.settle {φ : Nat → Nat} {s : St} {r : RSt} (h : Sim8 φ s r) (hH : ∀ n f, s.now n = some f → f ∈ s.held) : Sim8 φ (settleS s) { r with dirs := [r.now], pend := [] } := by
  have hin : ∀ f, f ∈ (settleS s).held → f ∈ s.held ∧ ∃ n, s.now n = some f := fun f hf => by
    have := List.mem_filter.1 hf
    exact ⟨this.1, of_decide_eq_true this.2⟩
  refine ⟨h.most, h.off, h.arm, h.cnt, fun f hf g hg e => h.inj f (hin f hf).1 g (hin g hg).1 e, fun f hf => h.fil f (hin f hf).1, rfl, [s.now], rfl, rfl, rfl, ⟨h.now.1, trivial⟩, ?_, ?_⟩
  · intro D hD n f hn
    simp only [List.mem_singleton] at hD
    subst hD
    exact List.mem_filter.2 ⟨hH n f hn, decide_eq_true ⟨n, hn⟩⟩
  · intro f hf
    obtain ⟨_, n, hn⟩ := hin f hf
    exact ⟨s.now, List.mem_singleton.2 rfl, n, hn⟩
end Go.Proofs.Ytmkheogjnlmkdaa
namespace Go.Proofs.Ytmkheogjnlmkdaa
open Go Go.V
theorem count_now (s : St) : (countS s).1.now = s.now ∧ (countS s).1.held = s.held := by
  unfold countS; split
  · split <;> exact ⟨rfl, rfl⟩
  · exact ⟨rfl, rfl⟩
theorem fails_now (r : RSt) : (failsR r).1.now = r.now := by unfold failsR; split <;> rfl
theorem _root_.Go.V.Sim8.syncDir {φ : Nat → Nat} {s : St} {r : RSt} (h : Sim8 φ s r) (ok : Ok s) : Sim8 φ (syncDirS s).1 (syncDirR r).1 ∧ (syncDirR r).2 = (syncDirS s).2 := by
  unfold syncDirR syncDirS
  cases ho : s.off with
  | true =>
    rw [show r.off = true by rw [h.off, ho], if_pos rfl, if_pos rfl]
    exact ⟨h, rfl⟩
  | false =>
    rw [show r.off = false by rw [h.off, ho], if_neg Bool.false_ne_true, if_neg Bool.false_ne_true]
    obtain ⟨k1, k2⟩ := V.Sim8.count h ok.fuse.1 ho
    have k1' : Sim8 φ (countS s).1 (failsR r).1 := k1
    have k2' : (if (failsR r).2 then (81 : Int) else 0) = (countS s).2 := k2
    cases hb : (failsR r).2 with
    | true =>
      rw [hb] at k2'
      have c2 : (countS s).2 = 81 := k2'.symm
      rw [if_pos rfl, if_neg (by rw [c2]; decide)]
      exact ⟨k1', c2.symm⟩
    | false =>
      rw [hb] at k2'
      have c2 : (countS s).2 = 0 := k2'.symm
      rw [if_neg Bool.false_ne_true, if_pos c2]
      have := k1'.settle (by rw [(count_now s).1, (count_now s).2]; exact ok.nowH)
      rw [fails_now] at this
      exact ⟨this, rfl⟩
end Go.Proofs.Ytmkheogjnlmkdaa
namespace Go.Proofs.Ytmkheogjnlmkdaa
open Go Go.V
/-- The files met so far. -/
def metL (es : List En) (l : List Nat) : List Nat := es.foldl (fun l e => if e.2 ∈ l then l else l ++ [e.2]) l
theorem metL_iff : ∀ (es : List En) (l : List Nat) (k : Nat), k ∈ metL es l ↔ k ∈ l ∨ ∃ e ∈ es, e.2 = k
  | [], l, k => by simp [metL]
  | e :: es, l, k => by
    have h := metL_iff es (if e.2 ∈ l then l else l ++ [e.2]) k
    show k ∈ metL es _ ↔ _
    rw [h]
    by_cases hm : e.2 ∈ l
    · rw [if_pos hm]
      constructor
      · rintro (h | ⟨f, h1, h2⟩)
        · exact .inl h
        · exact .inr ⟨f, List.mem_cons_of_mem _ h1, h2⟩
      · rintro (h | ⟨f, h1, h2⟩)
        · exact .inl h
        · rcases List.mem_cons.1 h1 with rfl | h1
          · exact .inl (h2 ▸ hm)
          · exact .inr ⟨f, h1, h2⟩
    · rw [if_neg hm, List.mem_append, List.mem_singleton]
      constructor
      · rintro ((h | h) | ⟨f, h1, h2⟩)
        · exact .inl h
        · exact .inr ⟨e, List.mem_cons_self, h.symm⟩
        · exact .inr ⟨f, List.mem_cons_of_mem _ h1, h2⟩
      · rintro (h | ⟨f, h1, h2⟩)
        · exact .inl (.inl h)
        · rcases List.mem_cons.1 h1 with rfl | h1
          · exact .inl (.inr h2.symm)
          · exact .inr ⟨f, h1, h2⟩
theorem metL_nd : ∀ (es : List En) (l : List Nat), l.Nodup → (metL es l).Nodup
  | [], l, h => h
  | e :: es, l, h => by
    show (metL es (if e.2 ∈ l then l else l ++ [e.2])).Nodup
    apply metL_nd
    by_cases hm : e.2 ∈ l
    · rw [if_pos hm]; exact h
    · rw [if_neg hm]
      refine List.nodup_append.2 ⟨h, by simp, fun a ha b hb => ?_⟩
      simp only [List.mem_singleton] at hb
      subst hb
      exact fun e => hm (e ▸ ha)
theorem metF_L (r : RSt) : ∀ (es : List En) (p : List Bool × Int) (l : List Nat), (∀ e ∈ es, e.2 < p.1.length) → (∀ k, k < p.1.length → (p.1.getD k false = true ↔ k ∈ l)) → p.2 = (l.map fun k => ((fileR r k).1.length : Int)).sum →
    (metF r es p).2 = ((metL es l).map fun k => ((fileR r k).1.length : Int)).sum
  | [], p, l, _, _, h => h
  | e :: es, p, l, hx, hm, hs => by
    have he := hx e List.mem_cons_self
    show (metF r es (metStep r p e)).2 = ((metL es (if e.2 ∈ l then l else l ++ [e.2])).map _).sum
    have hl := metStep_len r p e
    refine metF_L r es _ _ (fun f hf => by rw [hl]; exact hx f (List.mem_cons_of_mem _ hf)) ?_ ?_
    · intro k hk
      rw [hl] at hk
      unfold metStep
      by_cases h1 : e.2 ∈ l
      · rw [if_pos h1, if_pos ((hm _ he).2 h1)]
        exact hm k hk
      · have h2 : ¬ p.1.getD e.2 false = true := fun h => h1 ((hm _ he).1 h)
        rw [if_neg h1, if_neg h2]
        show (p.1.set e.2 true).getD k false = true ↔ _
        rw [List.getD_eq_getElem?_getD, List.getElem?_set, List.mem_append, List.mem_singleton]
        by_cases hk2 : e.2 = k
        · rw [if_pos hk2, if_pos he]
          simp [hk2.symm]
        · rw [if_neg hk2, ← List.getD_eq_getElem?_getD, hm k hk]
          constructor
          · exact .inl
          · rintro (h | h)
            · exact h
            · exact absurd h.symm hk2
    · unfold metStep
      by_cases h1 : e.2 ∈ l
      · rw [if_pos h1, if_pos ((hm _ he).2 h1)]; exact hs
      · have h2 : ¬ p.1.getD e.2 false = true := fun h => h1 ((hm _ he).1 h)
        rw [if_neg h1, if_neg h2]
        simp [hs]
end Go.Proofs.Ytmkheogjnlmkdaa
namespace Go.Proofs.Ytmkheogjnlmkdaa
open Go Go.V
theorem _root_.Go.V.Sim8.held {φ : Nat → Nat} {s : St} {r : RSt} (h : Sim8 φ s r) (ok : Ok s) : heldR r = heldS s := by
  have hlt : ∀ f ∈ s.held, φ f < r.files.length := fun f hf => (List.getElem?_eq_some_iff.1 (h.fil f hf)).1
  obtain ⟨Ds, h1, h2, h3, h4, h5, h6⟩ := h.dirs
  have hmem : ∀ k, (∃ e ∈ r.dirs.flatten, e.2 = k) ↔ ∃ f ∈ s.held, φ f = k := fun k => by
    constructor
    · rintro ⟨⟨n, k'⟩, he, rfl⟩
      obtain ⟨es, hes, hee⟩ := List.mem_flatten.1 he
      obtain ⟨i, hi, rfl⟩ := List.getElem_of_mem hes
      obtain ⟨D, hD, hd⟩ := h4.get (List.getElem?_eq_getElem hi)
      obtain ⟨f, hf, hk⟩ := (hd.mem n k').1 hee
      exact ⟨f, h5 D (List.mem_of_getElem? hD) n f hf, hk.symm⟩
    · rintro ⟨f, hf, rfl⟩
      obtain ⟨D, hD, n, hn⟩ := h6 f hf
      obtain ⟨i, hi, rfl⟩ := List.getElem_of_mem hD
      obtain ⟨es, hes, hd⟩ := All2.getL' h4 (List.getElem?_eq_getElem hi)
      exact ⟨(n, φ f), List.mem_flatten.2 ⟨es, List.mem_of_getElem? hes, (hd.mem n (φ f)).2 ⟨f, hn, rfl⟩⟩, rfl⟩
  unfold heldR
  rw [metF_L r _ (met0 r) [] (fun e he => by
    obtain ⟨f, hf, hk⟩ := (hmem e.2).1 ⟨e, he, rfl⟩
    rw [← hk]; simpa [met0] using hlt f hf) (fun k hk => by
    have : (met0 r).1.getD k false = false := by unfold met0; rw [List.getD_eq_getElem?_getD, List.getElem?_replicate]; split <;> rfl
    rw [this]; simp) rfl]
  have hp : (metL r.dirs.flatten []).Perm (s.held.map φ) := by
    rw [List.perm_ext_iff_of_nodup (metL_nd _ _ List.nodup_nil) (List.pairwise_map.2 (ok.nd.imp_of_mem fun {a b} ha hb hne e => hne (h.inj a ha b hb e)))]
    intro k
    rw [metL_iff, List.mem_map, hmem]
    simp
  rw [sum_perm (hp.map _), List.map_map, heldS_cons]
  congr 1
  exact List.map_congr_left fun f hf => by show ((fileR r (φ f)).1.length : Int) = _; rw [h.file hf]
end Go.Proofs.Ytmkheogjnlmkdaa
namespace Go.Proofs.Ytmkheogjnlmkdaa
open Go Go.V
theorem _root_.Go.V.Sim8.append {φ : Nat → Nat} {s : St} {r : RSt} (h : Sim8 φ s r) (ok : Ok s) (n : Nm) (bs : List Int) : Sim8 φ (appendS s n bs).1 (appendR r n bs).1 ∧ (appendR r n bs).2 = (appendS s n bs).2 := by
  unfold appendR appendS findS
  rw [h.begin n]
  by_cases c0 : beginS s [n] = 0
  · rw [if_neg (by simp [c0]), if_neg (by simp [c0]), h.now.1.look n]
    cases hd : s.now n with
    | none => exact ⟨h, rfl⟩
    | some f =>
      have hf := ok.nowH _ _ hd
      simp only [Option.map_some]
      have hmo := h.most
      rw [h.file hf, h.held ok]
      by_cases hc : s.room - heldS s < bs.length
      · rw [if_pos hc, if_pos (by omega)]; exact ⟨h, rfl⟩
      · rw [if_neg hc, if_neg (by omega)]
        have := h.setFile hf (s.dat f ++ bs) (s.syn f)
        rw [setF_self] at this
        exact V.Sim8.count this ok.fuse.1 (beginS_on c0)
  · rw [if_pos c0, if_pos c0]
    exact ⟨h, rfl⟩
end Go.Proofs.Ytmkheogjnlmkdaa
