/- Lists of payloads gathered, their blocks known. -/
import Derived.Test.YtgpoldjpmcoppaaDoorVLz9
set_option linter.unusedSimpArgs false
set_option linter.unusedVariables false
set_option maxRecDepth 20000
namespace Go.Proofs.YtgpoldjpmcoppaaDoor
open Go Go.V
-- 5: uint8
-- 22: []uint8
-- 23: [][]uint8
/-- A list of payloads in memory, all of its blocks in N. -/
def LstN (H : Heap) (N : Nat → Prop) (v : Value) (l : List (List Int)) : Prop :=
  ∃ vs, V.Own H 0 22 1 v vs ∧ All2 (fun u xs => V.Own H 0 5 1 u (xs.map (.int .u8)) ∧ ∀ g, blk u = some g → N g) vs l ∧ ∀ g, blk v = some g → N g
theorem LstN.nil {H : Heap} {N : Nat → Prop} : LstN H N (.slice none 0 0) [] := ⟨[], Own.nil, trivial, fun g hg => by simp [blk] at hg⟩
theorem LstN.keep {H H' : Heap} {N N' : Nat → Prop} {v : Value} {l : List (List Int)} (h : LstN H N v l) (hk : ∀ g, N g → H'[g]? = H[g]?) (hN : ∀ g, N g → N' g) : LstN H' N' v l := by
  obtain ⟨vs, h1, h2, h3⟩ := h
  exact ⟨vs, h1.keep fun g hg => hk g (h3 g hg), h2.mono fun u xs ⟨a, b⟩ => ⟨a.keep fun g hg => hk g (b g hg), fun g hg => hN g (b g hg)⟩, fun g hg => hN g (h3 g hg)⟩
theorem LstN.lists {H : Heap} {N : Nat → Prop} {v : Value} {l : List (List Int)} (h : LstN H N v l) : Lists H 22 5 v l := by
  obtain ⟨vs, h1, h2, _⟩ := h
  exact ⟨vs, h1.sl, h2.mono fun _ _ h => h.1.sl⟩
theorem LstN.add {H : Heap} {N : Nat → Prop} {v u : Value} {l : List (List Int)} {p : List Int} (h : LstN H N v l) (hu : V.Own H 0 5 1 u (p.map (.int .u8))) (hl : l.length ≤ 1000000) :
    RunS Tryd.prog (sAppend #[23, 23] #[v, .slice (some ⟨H.size, 0, none⟩) 1 1]) (H.push (.cells #[u] 22)) (fun v' H' => LstN H' (fun g => N g ∨ blk u = some g ∨ (H.size ≤ g ∧ g < H'.size)) v' (l ++ [p]) ∧ H.size ≤ H'.size ∧ (∀ g, g < H.size → blk v ≠ some g → H'[g]? = H[g]?) ∧ V.Own H' 0 5 1 u (p.map (.int .u8))) := by
  obtain ⟨vs, h1, h2, h3⟩ := h
  have hvl := h2.length
  have huc : u.oneCell' = true := by
    obtain ⟨a, b, c, rfl⟩ := hu.sl.form
    rfl
  refine (append_lit (v := v) (xs := vs) ty23 ty22 rfl (by decide) h1 (ys := [u]) (m := 1) rfl (by simp [huc]) (n := vs.length + 1) (by simp) (by omega) (by omega) (Nat.zero_le _)).mono ?_
  rintro v' H' ⟨o, gr, _⟩
  have kp : ∀ (x : Value) (xs : List Int), V.Own H 0 5 1 x (xs.map (.int .u8)) → V.Own H' 0 5 1 x (xs.map (.int .u8)) := fun x xs hx => hx.keep fun g hg => gr.but.get g (hx.blk hg).2.1 fun e => by
    obtain ⟨_, _, c, hc⟩ := hx.blk hg
    obtain ⟨_, _, c', hc'⟩ := h1.blk e.symm
    rw [hc] at hc'
    simp only [Option.some.injEq, Obj.cells.injEq] at hc'
    exact absurd hc'.2.1 (by decide)
  refine ⟨⟨vs ++ [u], o, ?_, fun g hg => ?_⟩, gr.but.size, fun g hg hv => gr.but.get g hg fun e => hv e.symm, kp u p hu⟩
  · exact All2.snoc (R := fun u xs => V.Own H' 0 5 1 u (xs.map (.int .u8)) ∧ ∀ g, blk u = some g → (N g ∨ blk _ = some g ∨ (H.size ≤ g ∧ g < H'.size))) ⟨kp u p hu, fun g hg => .inr (.inl hg)⟩ (h2.mono fun x xs ⟨a, b⟩ => ⟨kp x xs a, fun g hg => .inl (b g hg)⟩)
  · rcases gr.at' with e | ⟨k, e, hk⟩
    · rw [e] at hg; exact .inl (h3 g hg)
    · rw [e] at hg
      cases hg
      exact .inr (.inr ⟨hk, (o.blk e).2.1⟩)
end Go.Proofs.YtgpoldjpmcoppaaDoor
