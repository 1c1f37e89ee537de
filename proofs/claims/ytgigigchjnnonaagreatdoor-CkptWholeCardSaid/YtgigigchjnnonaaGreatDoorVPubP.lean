/- Publish, plainly. -/
import Derived.Test.YtgigigchjnnonaaGreatDoorM1
set_option linter.unusedSimpArgs false
set_option linter.unusedVariables false
set_option maxRecDepth 20000
namespace Go.Proofs.YtgigigchjnnonaaGreatDoor
open Go Go.V
def tn (n : Nm) : Nm := ⟨#[116, 46]⟩ ++ n
def thereS (s : St) (n : Nm) : Bool := decide ((sizeS s n).2 = 0)
/-- What follows a step that answered an error. -/
def failS (s : St) (t : Nm) (was : Bool) (e : Int) : St × Int :=
  if e ≠ 81 ∧ was = false ∧ thereS s t = true then ((removeS s t).1, if (removeS s t).2 = 81 then 81 else e) else (s, e)
structure Pb where
  s : St
  w : WrS
/-- The step j of a Publish: Begin, a Put for each of l, End, Rename, SyncDir. -/
noncomputable def stepP (n : Nm) (hd : List Int) (l : List (List Int)) (f j : Nat) (p : Pb) : Pb × Int :=
  if j = 0 then (⟨(beginW p.s (tn n) f hd).1, (beginW p.s (tn n) f hd).2.1⟩, (beginW p.s (tn n) f hd).2.2) else
  if j ≤ l.length then (⟨(putW p.s p.w (l.getD (j - 1) [])).1, (putW p.s p.w (l.getD (j - 1) [])).2.1⟩, (putW p.s p.w (l.getD (j - 1) [])).2.2) else
  if j = l.length + 1 then (⟨(endW p.s p.w true).1, (endW p.s p.w true).2.1⟩, (endW p.s p.w true).2.2.2.2) else
  if j = l.length + 2 then (⟨(renameS p.s (tn n) n).1, p.w⟩, (renameS p.s (tn n) n).2) else
  (⟨(syncDirS p.s).1, p.w⟩, (syncDirS p.s).2)
noncomputable def goP (n : Nm) (hd : List Int) (l : List (List Int)) (f : Nat) (was : Bool) : Nat → Nat → Pb → St × Int
  | 0, _, p => (p.s, 0)
  | k + 1, j, p => if (stepP n hd l f j p).2 = 0 then goP n hd l f was k (j + 1) (stepP n hd l f j p).1 else failS (stepP n hd l f j p).1.s (tn n) was (stepP n hd l f j p).2
noncomputable def pubS (s : St) (n : Nm) (hd : List Int) (l : List (List Int)) (f : Nat) : St × Int := goP n hd l f (thereS s (tn n)) (l.length + 4) 0 ⟨s, newW (tn n)⟩
theorem count_ops (s : St) : (countS s).1.ops = s.ops + 1 := by
  unfold countS; split
  · split <;> rfl
  · rfl
theorem sync_ops (s : St) (n : Nm) : (syncS s n).1.ops ≤ s.ops + 1 := by
  unfold syncS
  split
  · split
    · simp only [count_ops]; exact Int.le_refl _
    · rw [count_ops]; exact Int.le_refl _
  · simp only; omega
theorem rename_ops (s : St) (n m : Nm) : (renameS s n m).1.ops ≤ s.ops + 1 := by
  unfold renameS
  split
  · simp only; omega
  · split
    · simp only; omega
    · unfold pendS; rw [count_ops]; exact Int.le_refl _
theorem syncDir_ops (s : St) : (syncDirS s).1.ops ≤ s.ops + 1 := by
  unfold syncDirS
  split
  · simp only; omega
  · split
    · unfold settleS; rw [count_ops]; exact Int.le_refl _
    · rw [count_ops]; exact Int.le_refl _
theorem remove_ops (s : St) (n : Nm) : (removeS s n).1.ops ≤ s.ops + 1 := by
  unfold removeS
  split
  · unfold pendS; rw [count_ops]; exact Int.le_refl _
  · simp only; omega
theorem putW_ops (s : St) (x : WrS) (p : List Int) : (putW s x p).1.ops ≤ s.ops + 1 := by
  have := putS_ops s x 2 p
  unfold putW
  split
  · simp only; omega
  · split
    · exact this
    · exact this
theorem endW_ops (s : St) (x : WrS) (b : Bool) : (endW s x b).1.ops ≤ s.ops + 2 := by
  have h1 := putS_ops s x 3 (be4 x.data)
  unfold endW
  split
  · simp only; omega
  · simp only
    split
    · have h2 := sync_ops (putS s x 3 (be4 x.data)).1 x.name
      omega
    · simp only; omega
theorem begin_ops (s : St) (n : Nm) (f : Nat) (p : List Int) : (beginW s n f p).1.ops ≤ s.ops + 2 := by
  have h1 := create_ops s n f
  have h2 := putS_ops (createS s n f).1 (newW n) 1 p
  unfold beginW
  split
  · simp only; omega
  · split
    · simp only; omega
    · omega
theorem stepP_ops (n : Nm) (hd : List Int) (l : List (List Int)) (f j : Nat) (p : Pb) : (stepP n hd l f j p).1.s.ops ≤ p.s.ops + 2 := by
  unfold stepP
  split
  · exact begin_ops _ _ _ _
  · split
    · have := putW_ops p.s p.w (l.getD (j - 1) []); simp only; omega
    · split
      · exact endW_ops _ _ _
      · split
        · have := rename_ops p.s (tn n) n; simp only; omega
        · have := syncDir_ops p.s; simp only; omega
theorem putW_ok {s : St} (ok : Ok s) (x : WrS) {p : List Int} (hp : Byt p) : Ok (putW s x p).1 := by
  have := putS_ok ok x 2 hp
  unfold putW
  split
  · exact ok
  · split
    · exact this
    · exact this
theorem endW_ok {s : St} (ok : Ok s) (x : WrS) (b : Bool) : Ok (endW s x b).1 := by
  have h1 := putS_ok ok x 3 (be4_byt x.data)
  unfold endW
  split
  · exact ok
  · simp only
    split
    · exact sync_ok h1 _
    · exact h1
theorem begin_ok {s : St} (ok : Ok s) (n : Nm) {f : Nat} (hf : f ∉ s.held) {p : List Int} (hp : Byt p) : Ok (beginW s n f p).1 := by
  unfold beginW
  split
  · exact ok
  · split
    · exact create_ok ok n hf
    · exact putS_ok (create_ok ok n hf) _ 1 hp
theorem stepP_ok {n : Nm} {hd : List Int} {l : List (List Int)} {f j : Nat} {p : Pb} (ok : Ok p.s) (hf : j = 0 → f ∉ p.s.held) (hb : Byt hd) (hl : ∀ x ∈ l, Byt x) : Ok (stepP n hd l f j p).1.s := by
  unfold stepP
  split
  · rename_i h; exact begin_ok ok _ (hf h) hb
  · split
    · rename_i h1 h2; exact putW_ok ok _ (hl _ (mem_getD (by omega) []))
    · split
      · exact endW_ok ok _ _
      · split
        · exact rename_ok ok _ _
        · exact syncDir_ok ok
theorem putS_size (s : St) (x : WrS) (k : Int) (p : List Int) : x.size ≤ (putS s x k p).2.1.size ∧ (putS s x k p).2.1.size ≤ x.size + 1036 := by
  unfold putS
  split
  · simp only; omega
  · rename_i h
    obtain ⟨_, h2, _⟩ := encO_eq (Classical.not_not.1 h)
    split
    · simp only; omega
    · simp only; omega
theorem putW_size (s : St) (x : WrS) (p : List Int) : x.size ≤ (putW s x p).2.1.size ∧ (putW s x p).2.1.size ≤ x.size + 1036 ∧ x.data ≤ (putW s x p).2.1.data ∧ (putW s x p).2.1.data ≤ x.data + 1 := by
  have h1 := putS_size s x 2 p
  have h2 := (putS_data s x 2 p).1
  unfold putW
  split
  · simp only; omega
  · split
    · simp only; omega
    · omega
theorem begin_size (s : St) (n : Nm) (f : Nat) (p : List Int) : 0 ≤ (beginW s n f p).2.1.size ∧ (beginW s n f p).2.1.size ≤ 1036 ∧ (beginW s n f p).2.1.data = 0 := by
  have h1 := putS_size (createS s n f).1 (newW n) 1 p
  have h2 := (putS_data (createS s n f).1 (newW n) 1 p).1
  have e1 : (newW n).size = 0 := rfl
  have e2 : (newW n).data = 0 := rfl
  unfold beginW
  split
  · simp only; omega
  · split
    · simp only; omega
    · omega
theorem fail_ops (s : St) (t : Nm) (was : Bool) (e : Int) : (failS s t was e).1.ops ≤ s.ops + 1 := by
  unfold failS
  split
  · exact remove_ops s t
  · simp only; omega
theorem goP_ops (n : Nm) (hd : List Int) (l : List (List Int)) (f : Nat) (was : Bool) : ∀ (k j : Nat) (p : Pb), (goP n hd l f was k j p).1.ops ≤ p.s.ops + 2 * k + 1
  | 0, j, p => by unfold goP; simp only; omega
  | k + 1, j, p => by
    have h1 := stepP_ops n hd l f j p
    unfold goP
    split
    · have := goP_ops n hd l f was k (j + 1) (stepP n hd l f j p).1
      omega
    · have := fail_ops (stepP n hd l f j p).1.s (tn n) was (stepP n hd l f j p).2
      omega
theorem pub_ops (s : St) (n : Nm) (hd : List Int) (l : List (List Int)) (f : Nat) : (pubS s n hd l f).1.ops ≤ s.ops + 2 * ((l.length + 4 : Nat) : Int) + 1 := goP_ops n hd l f _ _ _ _
end Go.Proofs.YtgigigchjnnonaaGreatDoor
