/- A crash behind a Publish; numbers copied. -/
import Derived.Test.YtgigigchjnnonaaGreatDoorVPubW
import Derived.Test.YtgigigchjnnonaaGreatDoorVLd9
set_option linter.unusedSimpArgs false
set_option linter.unusedVariables false
set_option maxRecDepth 20000
namespace Go.Proofs.YtgigigchjnnonaaGreatDoor
open Go Go.V
theorem cuts_keep (cuts : List Int) : ∀ (ns : List Nm) (j : Nat) (s : St), (cutsS cuts s ns j).now = s.now ∧ ∀ x, s.syn x = (s.dat x).length → (cutsS cuts s ns j).dat x = s.dat x ∧ (cutsS cuts s ns j).syn x = s.syn x
  | [], _, _ => ⟨rfl, fun _ _ => ⟨rfl, rfl⟩⟩
  | n :: ns, j, s => by
    have key : ∀ (y m x : Nat), s.syn x = (s.dat x).length → (cutS s y m).dat x = s.dat x ∧ (cutS s y m).syn x = s.syn x := fun y m x hx => by
      unfold cutS cutLen
      by_cases hy : x = y
      · subst hy
        simp only [setF_same]
        rw [hx, Nat.sub_self, Nat.min_zero, Nat.add_zero, List.take_length]
        exact ⟨rfl, rfl⟩
      · simp only
        exact ⟨setF_ne _ _ _ hy, setF_ne _ _ _ hy⟩
    unfold cutsS
    cases hn : s.now n with
    | none =>
      simp only
      exact cuts_keep cuts ns (j + 1) s
    | some y =>
      simp only
      obtain ⟨h1, h2⟩ := cuts_keep cuts ns (j + 1) (cutS s y (moreI cuts j))
      refine ⟨h1, fun x hx => ?_⟩
      obtain ⟨k1, k2⟩ := key y (moreI cuts j) x hx
      obtain ⟨q1, q2⟩ := h2 x (by rw [k1, k2]; exact hx)
      exact ⟨q1.trans k1, q2.trans k2⟩
theorem crash_peace {s : St} (ok : Ok s) (dir : Int) (cuts : List Int) (ns : List Nm) : Peace (crashS s dir cuts ns) ∧ (crashS s dir cuts ns).now = afterD s.last dir s.pend 0 ∧ ∀ x, s.syn x = (s.dat x).length → (crashS s dir cuts ns).dat x = s.dat x := by
  obtain ⟨h1, h2⟩ := cuts_keep cuts ns 0 { s with now := afterD s.last dir s.pend 0 }
  refine ⟨⟨crash_ok ok dir cuts ns, rfl, rfl⟩, ?_, fun x hx => ?_⟩
  · show (cutsS cuts { s with now := afterD s.last dir s.pend 0 } ns 0).now = _
    rw [h1]
  · exact (h2 x hx).1
/-- Behind a crash the name has the new file, whole, or what it had. -/
theorem crash_pub {s s' : St} {n : Nm} {f : Nat} {R : List Int} {e : Int} (ok : Ok s) (hp : s.pend = []) (hl : s.last = s.now) (hf : f ∉ s.held) (hn : isNm n = true) (ht : tn n ≠ n) (h : Out9 s s' (tn n) n f R e) (ok' : Ok s') (dir : Int) (cuts : List Int) (ns : List Nm) :
    ((crashS s' dir cuts ns).now n = some f ∧ (crashS s' dir cuts ns).dat f = R ∧ (e = 0 ∨ e = 81)) ∨ (e = 81 ∧ (crashS s' dir cuts ns).now n = s.now n ∧ ∀ g ∈ s.held, s.syn g = (s.dat g).length → (crashS s' dir cuts ns).dat g = s.dat g) := by
  obtain ⟨c1, c2, c3⟩ := crash_peace ok' dir cuts ns
  have hnf : ∀ k, s.now k ≠ some f := fun k e => hf (ok.nowH _ _ e)
  cases h with
  | fin h =>
    left
    rw [c2, h.last, h.pend]
    refine ⟨by show s'.now n = _; rw [h.now]; exact move_same (isNm_ne hn), ?_, .inl rfl⟩
    rw [c3 f (by rw [h.dat, h.syn, setF_same, setF_same]), h.dat, setF_same]
  | wip hp9 h =>
    right
    refine ⟨rfl, ?_, fun g hg hs => ?_⟩
    · rw [c2, h.last, h.pend, hp, hl]
      show (if bitI dir 0 then moveD s.now f (tn n) else s.now) n = s.now n
      split
      · exact move_ne ht.symm (hnf n)
      · rfl
    · have hgf : g ≠ f := by rintro rfl; exact hf hg
      rw [c3 g (by rw [h.dat, h.syn, setF_ne _ _ _ hgf, setF_ne _ _ _ hgf]; exact hs), h.dat, setF_ne _ _ _ hgf]
  | ren hp9 h =>
    have hd : ∀ g ∈ s.held, s.syn g = (s.dat g).length → (crashS s' dir cuts ns).dat g = s.dat g := fun g hg hs => by
      have hgf : g ≠ f := by rintro rfl; exact hf hg
      rw [c3 g (by rw [h.dat, h.syn, setF_ne _ _ _ hgf, setF_ne _ _ _ hgf]; exact hs), h.dat, setF_ne _ _ _ hgf]
    have hnow : (crashS s' dir cuts ns).now = if bitI dir 1 then moveD (if bitI dir 0 then moveD s.now f (tn n) else s.now) f n else (if bitI dir 0 then moveD s.now f (tn n) else s.now) := by
      rw [c2, h.last, h.pend, hp, hl]; rfl
    by_cases hb : bitI dir 1 = true
    · left
      rw [hnow, if_pos hb]
      refine ⟨move_same (isNm_ne hn), ?_, .inr rfl⟩
      rw [c3 f (by rw [h.dat, h.syn, setF_same, setF_same]), h.dat, setF_same]
    · right
      rw [hnow, if_neg hb]
      refine ⟨rfl, ?_, hd⟩
      split
      · exact move_ne ht.symm (hnf n)
      · rfl
end Go.Proofs.YtgigigchjnnonaaGreatDoor
