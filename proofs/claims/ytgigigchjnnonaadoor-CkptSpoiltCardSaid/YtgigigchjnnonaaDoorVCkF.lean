/- What the laws of checkpoints share: no file, nothing loaded; what fitting makes may be; a second file system stands. -/
import Derived.Test.YtgigigchjnnonaaDoorVCkB
import Derived.Test.YtgigigchjnnonaaDoorVAdd9
set_option linter.unusedSimpArgs false
set_option linter.unusedVariables false
set_option maxRecDepth 20000
namespace Go.Proofs.YtgigigchjnnonaaDoor
open Go Go.V
theorem no_load {s : St} (h : Peace s) {n : Nm} (hn : isNm n = true) (hx : s.now n = none) {hd : List Int} {l : List (List Int)} {e : Int} (hL : Loads s n hd l e) : hd = [] ∧ l = [] ∧ e = 82 := by
  have hf : findS s n = (none, 82) := by unfold findS; rw [begin_calm h.on hn, hx]; simp
  have hr : ∀ a k, readS s n a k = ([], 82) := fun a k => by unfold readS; rw [hf]
  have hnx : nextF s (newR n) = (newR n, 0, [], 82) := by
    unfold nextF
    simp only [show (newR n).name = n from rfl, hr]
    rw [if_pos (by decide)]
  have ho : openF s n = (newR n, [], 82) := by
    unfold openF
    simp only [hnx]
    rw [if_pos (by decide)]
  unfold Loads at hL
  rw [ho, if_pos (show (82 : Int) ≠ 0 by decide)] at hL
  exact hL
theorem estN_len (est : List Int) (i : Nat) : (estN est i).length = i := by simp [estN]
theorem degN_len (est more : List Int) (i : Nat) : (degN est more i).length = i := by simp [degN]
theorem estN_get (est : List Int) {i j : Nat} (h : j < i) : (estN est i).getD j 0 = estA est j := by simp [estN, List.getD_eq_getElem?_getD, h]
theorem degN_get (est more : List Int) {i j : Nat} (h : j < i) : (degN est more i).getD j 0 = degA est more j := by simp [degN, List.getD_eq_getElem?_getD, h]
theorem fitN_le (est : List Int) : fitN est ≤ 5000 ∧ fitN est ≤ est.length := by unfold fitN; omega
/-- What fitting makes may be. -/
theorem fit_may (est : List Int) (ds : List Bool) {gen p : Int} (hg : 1 ≤ gen ∧ gen ≤ 2147483647) (hp : 0 ≤ p ∧ p ≤ 2147483647) : mayC gen p (estN est (fitN est)) (ds.take 1000) = true := by
  refine mayC_iff.2 ⟨hg.1, hg.2, hp.1, hp.2, ?_, ?_, fun x hx => ?_⟩
  · rw [estN_len]; have := fitN_le est; omega
  · simp; omega
  · obtain ⟨j, _, rfl⟩ := List.mem_map.1 hx
    have := estA_rng est j
    omega
theorem fit_fits (est more : List Int) (ds : List Bool) : fitsC (estN est (fitN est)) (ds.take 1000) (degN est more (fitN est)) ((ds.take 1000).length : Nat) = true := by
  refine decide_eq_true ⟨by rw [estN_len, degN_len], rfl, fun i hi => ?_⟩
  rw [estN_len] at hi
  rw [estN_get est hi, degN_get est more hi]
  exact (degA_rng est more i).1
theorem fresh_now {n : Nm} {f : Nat} {R : List Int} {s' : St} (h : Fin (freshS 1048576) s' (tn n) n f R) {m : Nm} (h1 : m ≠ n) (h2 : m ≠ tn n) : s'.now m = none := by
  rw [h.now]
  unfold moveD freshS
  simp [h1, h2]
theorem loads_err {s : St} {n : Nm} {hd : List Int} {l : List (List Int)} {e : Int} (hL : Loads s n hd l e) (he : e ≠ 0) : hd = [] ∧ l = [] := by
  unfold Loads at hL
  split at hL
  · exact ⟨hL.1, hL.2.1⟩
  · obtain ⟨l', e', _, rfl, h⟩ := hL
    rw [if_pos he] at h
    exact h
theorem FsH.otherX {H H' : Heap} {X F F2 F2' : Nat → Prop} {b : Nat} {s : St} (h : FsH H F b s) (cx : ChX X F2 F2' H H') (hd : ∀ g, F g → ¬ F2 g) (hX : ∀ g, F g → ¬ X g) : FsH H' F b s ∧ ∀ g, F g → ¬ F2' g := by
  obtain ⟨_, _, _, _, _, h⟩ := h
  exact ⟨⟨_, _, _, _, _, h.keep cx.size fun g hg => cx.get g (h.lt g hg) (hd g hg) (hX g hg)⟩, fun g hg => cx.not (h.lt g hg) (hd g hg)⟩
end Go.Proofs.YtgigigchjnnonaaDoor
