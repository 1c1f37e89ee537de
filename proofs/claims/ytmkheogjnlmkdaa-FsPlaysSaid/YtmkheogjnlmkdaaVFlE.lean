/- The chapter's example. -/
import Derived.Test.YtmkheogjnlmkdaaVFsL
import Derived.Test.YtmkheogjnlmkdaaVFlP
set_option linter.unusedSimpArgs false
set_option linter.unusedVariables false
set_option maxRecDepth 20000
namespace Go.Proofs.Ytmkheogjnlmkdaa
open Go Go.V
theorem settle_all {s : St} (h : ∀ f ∈ s.held, ∃ n, s.now n = some f) : settleS s = { s with last := s.now, pend := [] } := by
  unfold settleS
  have : (s.held.filter fun f => @decide (∃ n, s.now n = some f) (Classical.propDecidable _)) = s.held := List.filter_eq_self.2 fun f hf => by simpa using h f hf
  rw [this]
def nA : Nm := ⟨#[97]⟩
def nB : Nm := ⟨#[98]⟩
theorem nA_nm : isNm nA = true := by decide +kernel
theorem nB_nm : isNm nB = true := by decide +kernel
theorem nAB : nA ≠ nB := by decide +kernel
def exD (x : Nat) : Dir := moveD (fun _ => none) x nA
theorem exD_get (x : Nat) (n : Nm) : exD x n = if n = nA then some x else none := by
  unfold exD moveD
  by_cases h : n = nA
  · rw [if_pos ⟨h, nm_ne nA_nm⟩, if_pos h]
  · rw [if_neg (fun e => h e.1), if_neg h]; simp
def exD2 (x : Nat) : Dir := moveD (exD x) x nB
theorem exD2_get (x : Nat) (n : Nm) : exD2 x n = if n = nB then some x else none := by
  unfold exD2 moveD
  by_cases h : n = nB
  · rw [if_pos ⟨h, nm_ne nB_nm⟩, if_pos h]
  · rw [if_neg (fun e => h e.1), if_neg h, exD_get]
    by_cases h2 : n = nA
    · rw [if_pos h2, if_pos rfl]
    · rw [if_neg h2]; simp
/-- The example's states. -/
def exS (x : Nat) (d : List Int) (y : Nat) (k : Int) : St := ⟨10, exD x, fun _ => none, [(x, nA)], [x], false, 0, k, setF (fun _ => []) x d, setF (setF (fun _ => 0) x 0) x y⟩
def hello : List Int := [104, 101, 108, 108, 111]
def you : List Int := [32, 121, 111, 117]
theorem ex_create (x : Nat) : createS (freshS 10) nA x = (exS x [] 0 1, 0) := by
  unfold createS
  have hb : beginS (freshS 10) [nA] = 0 := by rw [begin_nm (by simpa using nA_nm)]; rfl
  rw [if_neg (by rw [hb]; simp), if_neg (by simp [freshS])]
  simp [pendS, countS, addS, freshS, exS, exD, setF_setF]
theorem ex_find (x : Nat) (d : List Int) (y : Nat) (k : Int) : findS (exS x d y k) nA = (some x, 0) := by
  rw [find_on rfl nA_nm]
  have : (exS x d y k).now nA = some x := by show exD x nA = _; rw [exD_get, if_pos rfl]
  rw [this]
theorem ex_held (x : Nat) (d : List Int) (y : Nat) (k : Int) : heldS (exS x d y k) = d.length := by
  simp [heldS, exS, setF]
theorem ex_append (x : Nat) (d e : List Int) (y : Nat) (k : Int) : appendS (exS x d y k) nA e = if 10 - (d.length : Int) < e.length then (exS x d y k, 80) else (exS x (d ++ e) y (k + 1), 0) := by
  unfold appendS
  rw [ex_find, ex_held]
  show (if 10 - (d.length : Int) < e.length then _ else _) = _
  split
  · rfl
  · simp [countS, exS, setF_setF, setF_get]
theorem ex_sync (x : Nat) (d : List Int) (y : Nat) (k : Int) : syncS (exS x d y k) nA = (exS x d d.length (k + 1), 0) := by
  unfold syncS
  rw [ex_find]
  simp [countS, exS, setF_setF, setF_get]
noncomputable def exT (x : Nat) (d : List Int) (y : Nat) (k : Int) : St := { exS x d y k with last := exD x, pend := [] }
theorem ex_syncdir (x : Nat) (d : List Int) (y : Nat) (k : Int) : syncDirS (exS x d y k) = (exT x d y (k + 1), 0) := by
  unfold syncDirS
  rw [if_neg (by simp [exS])]
  have hc : countS (exS x d y k) = (exS x d y (k + 1), 0) := by simp [countS, exS]
  rw [hc, if_pos rfl]
  simp only
  rw [settle_all]
  · rfl
  · intro f hf
    have : f = x := by simpa [exS] using hf
    subst this
    exact ⟨nA, by show exD f nA = _; rw [exD_get, if_pos rfl]⟩
noncomputable def exU (x : Nat) (d : List Int) (y : Nat) (k : Int) : St := { exT x d y k with now := exD2 x, pend := [(x, nB)] }
theorem ex_rename (x : Nat) (d : List Int) (y : Nat) (k : Int) : renameS (exT x d y k) nA nB = (exU x d y (k + 1), 0) := by
  unfold renameS
  have hb : beginS (exT x d y k) [nA, nB] = 0 := by rw [begin_nm (by simp [nA_nm, nB_nm])]; rfl
  rw [if_neg (by rw [hb]; simp)]
  have : (exT x d y k).now nA = some x := by show exD x nA = _; rw [exD_get, if_pos rfl]
  rw [this]
  simp [pendS, countS, exU, exT, exS, exD2]
theorem ex_heldU (x : Nat) (d : List Int) (y : Nat) (k : Int) : heldS (exU x d y k) = d.length := by
  simp [heldS, exU, exT, exS, setF]
noncomputable def exV (x : Nat) (d : List Int) (k : Int) : St := ⟨10, exD2 x, exD2 x, [], [x], false, 0, k, setF (fun _ => []) x d, setF (setF (fun _ => 0) x 0) x d.length⟩
theorem ex_names {x : Nat} {d : List Int} {y : Nat} {k : Int} {ns : List Nm} (h : IsNames (afterD (exU x d y k).last 1 (exU x d y k).pend 0) ns) : ns = [nB] ∧ afterD (exU x d y k).last 1 (exU x d y k).pend 0 = exD2 x := by
  have e : afterD (exU x d y k).last 1 (exU x d y k).pend 0 = exD2 x := by
    simp [exU, exT, exS, afterD, exD2, bitI]
  rw [e] at h
  refine ⟨?_, e⟩
  have hm : ∀ n, n ∈ ns ↔ n = nB := fun n => by rw [h.2 n, exD2_get]; by_cases hn : n = nB <;> simp [hn]
  have nd := names_nodup h
  have : ns.Perm [nB] := by
    rw [List.perm_ext_iff_of_nodup nd (by simp)]
    intro n; rw [hm]; simp
  exact List.perm_singleton.1 this
theorem ex_crash (x : Nat) (d : List Int) (y : Nat) (k : Int) (hy : y ≤ d.length) : crashS (exU x d y k) 1 [2] [nB] = exV x (d.take (y + min 2 (d.length - y))) k := by
  have e : afterD (exU x d y k).last 1 (exU x d y k).pend 0 = exD2 x := by
    simp [exU, exT, exS, afterD, exD2, bitI]
  unfold crashS
  rw [e]
  have e2 : cutsS [2] { exU x d y k with now := exD2 x } [nB] 0 = cutS { exU x d y k with now := exD2 x } x 2 := by
    unfold cutsS
    have : exD2 x nB = some x := by rw [exD2_get, if_pos rfl]
    simp only [this]
    rfl
  rw [e2]
  rw [settle_all]
  · have : (List.take (y + min 2 (d.length - y)) d).length = y + min 2 (d.length - y) := by rw [List.length_take]; omega
    simp only [cutS, cutLen, exV, exU, exT, exS, setF_get, setF_setF]
    rw [this]
  · intro f hf
    have : f = x := by simpa [exU, exT, exS, cutS] using hf
    subst this
    exact ⟨nB, by show exD2 f nB = _; rw [exD2_get, if_pos rfl]⟩
end Go.Proofs.Ytmkheogjnlmkdaa
