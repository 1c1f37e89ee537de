/- Both file systems side by side: Crash. -/
import Derived.Test.YtmkheogjnlmkdaaVSimA
set_option linter.unusedSimpArgs false
set_option linter.unusedVariables false
set_option maxRecDepth 20000
namespace Go.V
open Go
def crashF (l : List (Nm × List Int)) : List Dt := l.map fun p => (p.2, p.2.length)
def crashD (l : List (Nm × List Int)) : List En := l.zipIdx.map fun p => (p.1.1, p.2)
theorem crashD_get (l : List (Nm × List Int)) (k : Nat) : (crashD l)[k]? = l[k]?.map fun p => (p.1, k) := by
  unfold crashD
  rw [List.getElem?_map, List.getElem?_zipIdx]
  cases l[k]? <;> simp
theorem crashD_snoc (l : List (Nm × List Int)) (p : Nm × List Int) : crashD (l ++ [p]) = crashD l ++ [(p.1, l.length)] := by
  unfold crashD
  rw [List.zipIdx_append, List.map_append]
  simp
theorem crashD_len (l : List (Nm × List Int)) : (crashD l).length = l.length := by unfold crashD; simp
theorem crashF_snoc (l : List (Nm × List Int)) (p : Nm × List Int) : crashF (l ++ [p]) = crashF l ++ [(p.2, p.2.length)] := by unfold crashF; simp
theorem keep_cuts (cuts : List Int) : ∀ (ns : List Nm) (j : Nat) (s : St), (cutsS cuts s ns j).ops = s.ops ∧ (cutsS cuts s ns j).room = s.room ∧ (cutsS cuts s ns j).now = s.now ∧ (cutsS cuts s ns j).held = s.held
  | [], j, s => ⟨rfl, rfl, rfl, rfl⟩
  | n :: ns, j, s => by
    unfold cutsS
    cases s.now n with
    | none => exact keep_cuts cuts ns (j + 1) s
    | some x =>
      obtain ⟨a, b, c, d⟩ := keep_cuts cuts ns (j + 1) (cutS s x (moreI cuts j))
      exact ⟨a, b, c, d⟩
/-- A file that none of these names stands for stays. -/
theorem cuts_out (cuts : List Int) (x : Nat) : ∀ (ns : List Nm) (j : Nat) (s : St), (∀ n ∈ ns, s.now n ≠ some x) → (cutsS cuts s ns j).dat x = s.dat x ∧ (cutsS cuts s ns j).syn x = s.syn x
  | [], j, s, _ => ⟨rfl, rfl⟩
  | n :: ns, j, s, h => by
    unfold cutsS
    have h0 := h n List.mem_cons_self
    cases hn : s.now n with
    | none => exact cuts_out cuts x ns (j + 1) s fun m hm => h m (List.mem_cons_of_mem _ hm)
    | some y =>
      have hxy : x ≠ y := fun e => h0 (by rw [hn, e])
      obtain ⟨a, b⟩ := cuts_out cuts x ns (j + 1) (cutS s y (moreI cuts j)) fun m hm => h m (List.mem_cons_of_mem _ hm)
      refine ⟨a.trans ?_, b.trans ?_⟩ <;> simp only [cutS, setF, if_neg hxy]
/-- What the cuts leave of the i-th name's file. -/
theorem cuts_at (cuts : List Int) {x : Nat} {n : Nm} : ∀ (ns : List Nm) (j i : Nat) (s : St), ns.Nodup → (∀ a b f, s.now a = some f → s.now b = some f → a = b) → ns[i]? = some n → s.now n = some x →
    (cutsS cuts s ns j).dat x = (s.dat x).take (cutLen s x (moreI cuts (j + i))) ∧ (cutsS cuts s ns j).syn x = cutLen s x (moreI cuts (j + i))
  | [], j, i, s, _, _, h, _ => by simp at h
  | m :: ns, j, 0, s, nd, inj, h, hx => by
    simp only [List.getElem?_cons_zero, Option.some.injEq] at h
    subst h
    unfold cutsS
    rw [hx]
    have hout : ∀ k ∈ ns, (cutS s x (moreI cuts j)).now k ≠ some x := fun k hk e => by
      have : k = m := inj k m x e hx
      exact (List.nodup_cons.1 nd).1 (this ▸ hk)
    obtain ⟨a, b⟩ := cuts_out cuts x ns (j + 1) (cutS s x (moreI cuts j)) hout
    refine ⟨a.trans ?_, b.trans ?_⟩ <;> simp only [cutS, setF, if_true, Nat.add_zero]
  | m :: ns, j, i + 1, s, nd, inj, h, hx => by
    simp only [List.getElem?_cons_succ] at h
    have hmn : m ≠ n := fun e => (List.nodup_cons.1 nd).1 (e ▸ List.mem_of_getElem? h)
    have ej : j + (i + 1) = j + 1 + i := by omega
    unfold cutsS
    rw [ej]
    cases hm : s.now m with
    | none => exact cuts_at cuts ns (j + 1) i s (List.nodup_cons.1 nd).2 inj h hx
    | some y =>
      have hxy : x ≠ y := fun e => hmn (inj m n x (by rw [hm, e]) hx)
      obtain ⟨a, b⟩ := cuts_at cuts ns (j + 1) i (cutS s y (moreI cuts j)) (List.nodup_cons.1 nd).2 inj h hx
      have e1 : (cutS s y (moreI cuts j)).dat x = s.dat x := by simp only [cutS, setF, if_neg hxy]
      have e2 : (cutS s y (moreI cuts j)).syn x = s.syn x := by simp only [cutS, setF, if_neg hxy]
      have e3 : cutLen (cutS s y (moreI cuts j)) x (moreI cuts (j + 1 + i)) = cutLen s x (moreI cuts (j + 1 + i)) := by unfold cutLen; rw [e1, e2]
      exact ⟨by rw [a, e1, e3], by rw [b, e3]⟩
theorem DirL.after {φ : Nat → Nat} {hs : List Nat} (hinj : ∀ f ∈ hs, ∀ g ∈ hs, φ f = φ g → f = g) {dir : Int} : ∀ (l : List (Nat × Nm)) (i : Nat) {D : Dir} {es : List En}, DirL φ D es → (∀ m f, D m = some f → f ∈ hs) → (∀ p ∈ l, p.1 ∈ hs) →
    DirL φ (afterD D dir l i) (afterR es dir (l.map fun p => (φ p.1, p.2)) i)
  | [], i, D, es, h, _, _ => h
  | p :: l, i, D, es, h, hD, hl => by
    have hp := hl p List.mem_cons_self
    have hl' : ∀ q ∈ l, q.1 ∈ hs := fun q hq => hl q (List.mem_cons_of_mem _ hq)
    show DirL φ (afterD (if bitI dir i then moveD D p.1 p.2 else D) dir l (i + 1)) (afterR (if bitI dir i then toldE es (φ p.1) p.2 else es) dir (l.map fun p => (φ p.1, p.2)) (i + 1))
    cases bitI dir i with
    | true =>
      rw [if_pos rfl, if_pos rfl]
      exact DirL.after hinj l (i + 1) (h.told fun m f hm => hinj f (hD m f hm) p.1 hp) (moveD_held hD hp) hl'
    | false =>
      rw [if_neg Bool.false_ne_true, if_neg Bool.false_ne_true]
      exact DirL.after hinj l (i + 1) h hD hl'
theorem rise_unique : ∀ (l r : List Nm), l.Pairwise (fun a b => a.data.toList < b.data.toList) → r.Pairwise (fun a b => a.data.toList < b.data.toList) → (∀ n, n ∈ l ↔ n ∈ r) → l = r
  | [], [], _, _, _ => rfl
  | [], b :: r, _, _, h => by have := (h b).2 List.mem_cons_self; simp at this
  | a :: l, [], _, _, h => by have := (h a).1 List.mem_cons_self; simp at this
  | a :: l, b :: r, hl, hr, h => by
    have hl' := List.pairwise_cons.1 hl
    have hr' := List.pairwise_cons.1 hr
    have e : a = b := by
      refine Classical.byContradiction fun hne => ?_
      have h1 : a ∈ r := by
        rcases List.mem_cons.1 ((h a).1 List.mem_cons_self) with e | e
        · exact absurd e hne
        · exact e
      have h2 : b ∈ l := by
        rcases List.mem_cons.1 ((h b).2 List.mem_cons_self) with e | e
        · exact absurd e.symm hne
        · exact e
      exact List.lt_asymm (hl'.1 b h2) (hr'.1 a h1)
    subst e
    congr 1
    refine rise_unique l r hl'.2 hr'.2 fun n => ⟨fun hn => ?_, fun hn => ?_⟩
    · rcases List.mem_cons.1 ((h n).1 (List.mem_cons_of_mem _ hn)) with e | e
      · subst e; exact absurd (hl'.1 n hn) (List.lt_irrefl _)
      · exact e
    · rcases List.mem_cons.1 ((h n).2 (List.mem_cons_of_mem _ hn)) with e | e
      · subst e; exact absurd (hr'.1 n hn) (List.lt_irrefl _)
      · exact e
/-- The names of a sorted directory. -/
theorem DirL.names {φ : Nat → Nat} {D : Dir} {es : List En} (h : DirL φ D es) : IsNames D (es.map (·.1)) := by
  refine ⟨List.pairwise_map.2 h.ris, fun n => ?_⟩
  rw [List.mem_map]
  constructor
  · rintro ⟨e, he, rfl⟩ hn
    obtain ⟨f, h1, _⟩ := (h.mem e.1 e.2).1 he
    rw [hn] at h1; cases h1
  · intro hn
    obtain ⟨f, hf⟩ := Option.ne_none_iff_exists'.1 hn
    exact ⟨(n, φ f), (h.mem n (φ f)).2 ⟨f, hf, rfl⟩, rfl⟩
theorem DirL.is {φ : Nat → Nat} {D : Dir} {es : List En} {ns : List Nm} (h : DirL φ D es) (hn : IsNames D ns) : es.map (·.1) = ns :=
  rise_unique _ _ h.names.1 hn.1 fun n => by rw [h.names.2, hn.2]
/-- Where a file stands in a directory. -/
def posE (φ : Nat → Nat) (es : List En) (f : Nat) : Nat := es.findIdx fun e => decide (e.2 = φ f)
theorem posE_get {φ : Nat → Nat} {D : Dir} {es : List En} {n : Nm} {f : Nat} (h : DirL φ D es) (hinj : ∀ m g, D m = some g → φ g = φ f → g = f) (hI : ∀ a b g, D a = some g → D b = some g → a = b) (hn : D n = some f) : es[posE φ es f]? = some (n, φ f) := by
  have hm : (n, φ f) ∈ es := (h.mem n (φ f)).2 ⟨f, hn, rfl⟩
  have hlt : posE φ es f < es.length := by
    unfold posE
    exact List.findIdx_lt_length_of_exists ⟨_, hm, decide_eq_true rfl⟩
  have hp : decide ((es[posE φ es f]'hlt).2 = φ f) = true := List.findIdx_getElem (w := hlt)
  have hp := of_decide_eq_true hp
  rw [List.getElem?_eq_getElem hlt]
  have hin : es[posE φ es f]'hlt ∈ es := List.getElem_mem _
  generalize es[posE φ es f]'hlt = e at *
  obtain ⟨m, k⟩ := e
  obtain ⟨g, h1, h2⟩ := (h.mem m k).1 hin
  simp only at hp
  have hg : g = f := hinj m g h1 (by rw [← h2, hp])
  subst hg
  rw [hI m n g h1 hn, hp]
end Go.V
namespace Go.Proofs.Ytmkheogjnlmkdaa
open Go Go.V
def crashR (r : RSt) (dir : Int) (cuts : List Int) : RSt :=
  { r with files := crashF (leftR r dir cuts), dirs := [crashD (leftR r dir cuts)], pend := [], off := false, armed := 0 }
theorem leftR_get (r : RSt) (dir : Int) (cuts : List Int) (k : Nat) : (leftR r dir cuts)[k]? = (leftD r dir)[k]?.map (leftF r cuts k) := by
  unfold leftR
  rw [List.getElem?_map, List.getElem?_zipIdx]
  cases (leftD r dir)[k]? <;> simp
theorem _root_.Go.V.Sim8.left {φ : Nat → Nat} {s : St} {r : RSt} (h : Sim8 φ s r) (ok : Ok s) (dir : Int) : DirL φ (afterD s.last dir s.pend 0) (leftD r dir) := by
  obtain ⟨Ds, h1, h2, h3, h4, h5, h6⟩ := h.dirs
  obtain ⟨es, he, hd⟩ := All2.getL' h4 h2
  unfold leftD
  rw [List.getD_eq_getElem?_getD, he, h.pend]
  exact DirL.after h.inj s.pend 0 hd ok.lastH ok.pendH
theorem more_eq {s : St} {x : Nat} (cuts : List Int) (j : Nat) (hs : s.syn x ≤ (s.dat x).length) : s.syn x + moreR cuts (s.dat x, s.syn x) j = cutLen s x (moreI cuts j) := by
  unfold moreR cutLen moreI
  split
  · simp only; omega
  · rename_i hj
    rw [List.getD_eq_getElem?_getD, List.getElem?_eq_none (by omega)]
    simp
open Classical in
theorem _root_.Go.V.Sim8.crash {φ : Nat → Nat} {s : St} {r : RSt} (h : Sim8 φ s r) (ok : Ok s) (dir : Int) (cuts : List Int) {ns : List Nm} (hns : IsNames (afterD s.last dir s.pend 0) ns) :
    ∃ φ', Sim8 φ' (crashS s dir cuts ns) (crashR r dir cuts) := by
  have hd := V.Sim8.left h ok dir
  have okn := now_ok ok dir
  obtain ⟨D, hD⟩ : ∃ D, D = afterD s.last dir s.pend 0 := ⟨_, rfl⟩
  rw [← hD] at hd hns
  have hI : ∀ a b g, D a = some g → D b = some g → a = b := by rw [hD]; exact okn.nowI
  have hH : ∀ m g, D m = some g → g ∈ s.held := by rw [hD]; exact okn.nowH
  have hin : ∀ {n f}, D n = some f → ∀ m g, D m = some g → φ g = φ f → g = f := fun hn m g hm => h.inj g (hH m g hm) _ (hH _ _ hn)
  have hpos : ∀ {n f}, D n = some f → (leftD r dir)[posE φ (leftD r dir) f]? = some (n, φ f) := fun hn => posE_get hd (hin hn) hI hn
  have hnm := hd.is hns
  have hnd : ns.Nodup := names_nodup hns
  have ec : crashS s dir cuts ns = { settleS (cutsS cuts { s with now := D } ns 0) with off := false, fuse := 0 } := by unfold crashS; rw [hD]
  obtain ⟨k1, k2, k3, k4⟩ := keep_cuts cuts ns 0 { s with now := D }
  have hheld : ∀ f, f ∈ (crashS s dir cuts ns).held → ∃ n, D n = some f := fun f hf => by
    rw [ec] at hf
    have := (List.mem_filter.1 hf).2
    rw [k3] at this
    exact of_decide_eq_true this
  have hback : ∀ n f, D n = some f → f ∈ (crashS s dir cuts ns).held := fun n f hn => by
    rw [ec]
    refine List.mem_filter.2 ⟨by rw [k4]; exact hH n f hn, ?_⟩
    rw [k3]
    exact decide_eq_true ⟨n, hn⟩
  have en : (crashS s dir cuts ns).now = D := by rw [ec]; exact k3
  have el : (crashS s dir cuts ns).last = D := by rw [ec]; exact k3
  have ep : (crashS s dir cuts ns).pend = [] := by rw [ec]; rfl
  refine ⟨posE φ (leftD r dir), ⟨?_, ?_, ?_, ?_, ?_, ?_, ?_, ?_⟩⟩
  · rw [ec]; exact h.most.trans k2.symm
  · rw [ec]; rfl
  · rw [ec]; rfl
  · rw [ec]; exact h.cnt.trans k1.symm
  · intro f hf g hg e
    obtain ⟨n, hn⟩ := hheld f hf
    obtain ⟨m, hm⟩ := hheld g hg
    have h1 := hpos hn
    have h2 := hpos hm
    rw [e, h2] at h1
    simp only [Option.some.injEq, Prod.mk.injEq] at h1
    exact hin hm n f hn h1.2.symm
  · intro f hf
    obtain ⟨n, hn⟩ := hheld f hf
    have h1 := hpos hn
    have hfh := hH n f hn
    have h2 : ns[posE φ (leftD r dir) f]? = some n := by rw [← hnm, List.getElem?_map, h1]; rfl
    obtain ⟨c1, c2⟩ := cuts_at cuts ns 0 _ { s with now := D } hnd hI h2 hn
    rw [Nat.zero_add] at c1 c2
    have hsy := ok.syn f hfh
    have ecl : cutLen { s with now := D } f (moreI cuts (posE φ (leftD r dir) f)) = cutLen s f (moreI cuts (posE φ (leftD r dir) f)) := rfl
    rw [ecl] at c1 c2
    have ed : (crashS s dir cuts ns).dat f = (s.dat f).take (cutLen s f (moreI cuts (posE φ (leftD r dir) f))) := by rw [ec]; exact c1
    have es : (crashS s dir cuts ns).syn f = cutLen s f (moreI cuts (posE φ (leftD r dir) f)) := by rw [ec]; exact c2
    show (crashF (leftR r dir cuts))[posE φ (leftD r dir) f]? = _
    unfold crashF
    rw [List.getElem?_map, leftR_get, h1]
    simp only [Option.map_some]
    rw [ed, es]
    have ef : (leftF r cuts (posE φ (leftD r dir) f) (n, φ f)).2 = (s.dat f).take (cutLen s f (moreI cuts (posE φ (leftD r dir) f))) := by
      unfold leftF
      simp only
      rw [h.file hfh, more_eq cuts _ hsy]
    rw [ef]
    congr 2
    rw [List.length_take]
    unfold cutLen
    omega
  · rw [ep]; rfl
  · refine ⟨[D], by rw [ep]; rfl, by rw [el]; rfl, by rw [en]; rfl, ⟨⟨?_, fun n k => ?_⟩, trivial⟩, fun D' hD' n f hn => ?_, fun f hf => ?_⟩
    · have h1 : Ris (leftD r dir) := hd.ris
      have h2 : (crashD (leftR r dir cuts)).map (·.1) = (leftD r dir).map (·.1) := by
        apply List.ext_getElem?
        intro k
        rw [List.getElem?_map, List.getElem?_map, crashD_get, leftR_get]
        cases (leftD r dir)[k]? <;> rfl
      have h3 : ((leftD r dir).map (·.1)).Pairwise (fun a b : Nm => a.data.toList < b.data.toList) := List.pairwise_map.2 h1
      rw [← h2] at h3
      exact (List.pairwise_map (f := fun e : En => e.1) (R := fun a b : Nm => a.data.toList < b.data.toList)).1 h3
    · rw [List.mem_iff_getElem?]
      constructor
      · rintro ⟨i, hi⟩
        rw [crashD_get, leftR_get] at hi
        cases hl : (leftD r dir)[i]? with
        | none => rw [hl] at hi; cases hi
        | some e =>
          rw [hl] at hi
          simp only [Option.map_some, Option.some.injEq, Prod.mk.injEq] at hi
          obtain ⟨hi1, hi2⟩ := hi
          subst hi2
          have he : e.1 = n := hi1
          obtain ⟨f, hf1, hf2⟩ := (hd.mem e.1 e.2).1 (List.mem_of_getElem? hl)
          rw [he] at hf1
          refine ⟨f, hf1, ?_⟩
          have h1 := hpos hf1
          have h4 : ns[i]? = some n := by rw [← hnm, List.getElem?_map, hl]; simp [he]
          have h5 : ns[posE φ (leftD r dir) f]? = some n := by rw [← hnm, List.getElem?_map, h1]; rfl
          have h6 := (List.getElem?_eq_some_iff.1 h4).1
          exact (List.getElem?_inj h6 hnd).1 (by rw [h4, h5])
      · rintro ⟨f, hf, rfl⟩
        refine ⟨posE φ (leftD r dir) f, ?_⟩
        rw [crashD_get, leftR_get, hpos hf]
        rfl
    · simp only [List.mem_singleton] at hD'
      subst hD'
      exact hback n f hn
    · obtain ⟨n, hn⟩ := hheld f hf
      exact ⟨D, List.mem_singleton.2 rfl, n, hn⟩
end Go.Proofs.Ytmkheogjnlmkdaa
