/- The chapter's example, walked. -/
import Derived.Test.YtgigigchjnnonaaGreatDoorM1
set_option linter.unusedSimpArgs false
set_option linter.unusedVariables false
set_option maxRecDepth 20000
namespace Go.V
open Go
/-- All that there was is as it was, and F is new. -/
def Newly (H H' : Heap) (F : Nat → Prop) : Prop := Ext H H' ∧ ∀ g, F g → H.size ≤ g
theorem Newly.chx {H H1 H2 : Heap} {X F F' : Nat → Prop} (h : Newly H H1 F) (c : ChX X F F' H1 H2) (hX : ∀ g, X g → H.size ≤ g) : Newly H H2 F' := by
  refine ⟨⟨Nat.le_trans h.1.size c.size, fun b hb => ?_⟩, fun g hg => ?_⟩
  · rw [c.get b (Nat.lt_of_lt_of_le hb h.1.size) (fun hf => by have := h.2 b hf; omega) fun hx => by have := hX b hx; omega]
    exact h.1.get b hb
  · rcases c.old g hg with e | e
    · exact h.2 g e
    · exact Nat.le_trans h.1.size e
theorem Newly.ext {H H1 H2 : Heap} {F : Nat → Prop} (h : Newly H H1 F) (x : Ext H1 H2) : Newly H H2 F := ⟨h.1.trans (x.mono h.1.size), h.2⟩
theorem Newly.stg0 {H H1 : Heap} {F : Nat → Prop} (h : Newly H H1 F) (ht : CrcTab H) : ¬ F 0 ∧ CrcTab H1 := by
  refine ⟨fun e => ?_, ht.ext h.1⟩
  have := h.2 0 e
  obtain ⟨t, fr, ht⟩ := ht
  have := (Array.getElem?_eq_some_iff.1 ht).1
  omega
end Go.V
namespace Go.Proofs.YtgigigchjnnonaaGreatDoor
open Go Go.V


theorem FsH.lt {H : Heap} {F : Nat → Prop} {b : Nat} {s : St} (h : FsH H F b s) {g : Nat} (hg : F g) : g < H.size := by
  obtain ⟨_, _, _, _, _, hP⟩ := h; exact hP.lt _ hg
theorem Peace.fresh {room : Int} (h : 0 ≤ room ∧ room ≤ 2147483647) : Peace (freshS room) := ⟨fresh_ok h, rfl, rfl⟩
theorem held_fresh (room : Int) : heldS (freshS room) = 0 := rfl
end Go.Proofs.YtgigigchjnnonaaGreatDoor
