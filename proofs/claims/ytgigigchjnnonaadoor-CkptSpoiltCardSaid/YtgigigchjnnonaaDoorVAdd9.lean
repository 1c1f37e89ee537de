/- Files added where nothing fails; slices that stand away from a file system. -/
import Derived.Test.YtgigigchjnnonaaDoorM2
import Derived.Test.YtgigigchjnnonaaDoorVSpoil
set_option linter.unusedSimpArgs false
set_option linter.unusedVariables false
set_option maxRecDepth 20000
namespace Go.V
open Go
/-- A slice of its own, away from a file system. -/
structure OwnA (H : Heap) (F : Nat → Prop) (B : Nat) (e : TypeId) (v : Value) (vs : List Value) : Prop where
  own : Own H B e 1 v vs
  aw : ∀ g, blk v = some g → ¬ F g
theorem OwnA.keep {X F F' : Nat → Prop} {H H' : Heap} {B : Nat} {e : TypeId} {v : Value} {vs : List Value} (h : OwnA H F B e v vs) (cx : ChX X F F' H H') (hX : ∀ g, blk v = some g → ¬ X g) : OwnA H' F' B e v vs :=
  ⟨h.own.keep fun g hg => cx.get g (h.own.blk hg).2.1 (h.aw g hg) (hX g hg), fun g hg => cx.not (h.own.blk hg).2.1 (h.aw g hg)⟩
theorem OwnA.ext {F : Nat → Prop} {H H' : Heap} {B : Nat} {e : TypeId} {v : Value} {vs : List Value} (h : OwnA H F B e v vs) (x : Ext H H') : OwnA H' F B e v vs := ⟨h.own.ext x, h.aw⟩
/-- A new slice is away from what there was. -/
theorem OwnA.of {F : Nat → Prop} {H H' : Heap} {e : TypeId} {v : Value} {vs : List Value} (h : Own H' H.size e 1 v vs) (hF : ∀ g, F g → g < H.size) : OwnA H' F H.size e v vs := ⟨h, fun g hg e => by have := hF g e; have := (h.blk hg).1; omega⟩
end Go.V
namespace Go.Proofs.YtgigigchjnnonaaDoor
open Go Go.V
theorem fresh_get (room : Int) (f : Nat) (n : Nm) : moveD (freshS room).now f nmF n = if n = nmF then some f else none := by
  unfold moveD freshS
  by_cases h : n = nmF
  · rw [if_pos ⟨h, isNm_ne nmF_nm⟩, if_pos h]
  · rw [if_neg (fun e => h e.1), if_neg h]; simp
/-- A file made, and filled at once. -/
structure Added (s : St) (n : Nm) (x : Nat) (b : List Int) (s2 : St) : Prop where
  create : (createS s n x).2 = 0
  pc1 : Peace (createS s n x).1
  ops1 : (createS s n x).1.ops = s.ops + 1
  append : appendS (createS s n x).1 n b = (s2, 0)
  pc : Peace s2
  now : s2.now n = some x
  dat : s2.dat x = b
  held : heldS s2 = heldS s + b.length
  room : s2.room = s.room
  ops : s2.ops = s.ops + 2
  other : ∀ m, m ≠ n → s2.now m = s.now m
  dats : ∀ y, y ≠ x → s2.dat y = s.dat y
  mem : s2.held = s.held ++ [x]
theorem add_peace {s : St} (h : Peace s) {n : Nm} (hn : isNm n = true) (hx : s.now n = none) {x : Nat} (hx' : x ∉ s.held) {b : List Int} (hb : Byt b) (hr : (b.length : Int) ≤ s.room - heldS s) : ∃ s2, Added s n x b s2 := by
  have hc := create_calm h hn (x := x) hx
  have hok := create_ok h.ok n hx'
  have hp1 : Peace (createS s n x).1 := ⟨hok, by rw [hc]; exact h.on, by rw [hc]; exact h.arm⟩
  have hh : heldS (createS s n x).1 = heldS s := by
    rw [hc]
    unfold heldS
    simp only [List.map_append, List.sum_append, List.map_cons, List.map_nil, List.sum_cons, List.sum_nil, setF_same, List.length_nil]
    have : (s.held.map fun g => ((setF s.dat x [] g).length : Int)) = s.held.map fun g => ((s.dat g).length : Int) := by
      apply List.map_congr_left
      intro g hg
      rw [setF_ne _ _ _ (by rintro rfl; exact hx' hg)]
    rw [this]; simp
  have hnow : (createS s n x).1.now n = some x := by rw [hc]; exact move_same (isNm_ne hn)
  have ha := append_calm hp1 hnow (b := b) (by rw [hh, hc]; exact hr)
  have hok2 := append_ok hok n hb
  rw [ha] at hok2
  have hd0 : (createS s n x).1.dat x = [] := by rw [hc]; exact setF_same _ _ _
  have hsum := sum_set hok (hok.nowH _ _ hnow) ((createS s n x).1.dat x ++ b)
  refine ⟨_, ⟨by rw [hc], hp1, by rw [hc], ha, ⟨hok2, hp1.on, hp1.arm⟩, hnow, by simp only; rw [setF_same, hd0, List.nil_append], ?_, by rw [hc], by rw [hc]; simp only; omega, fun m hm => ?_, fun y hy => ?_, by rw [hc]⟩⟩
  · have e : heldS { (createS s n x).1 with ops := (createS s n x).1.ops + 1, dat := setF (createS s n x).1.dat x ((createS s n x).1.dat x ++ b) } = heldS { (createS s n x).1 with dat := setF (createS s n x).1.dat x ((createS s n x).1.dat x ++ b) } := rfl
    rw [e, hsum, hh, hd0]
    simp
  · rw [hc]
    simp only
    rw [move_ne hm (fun e => hx' (h.ok.nowH _ _ e))]
  · simp only
    rw [setF_ne _ _ _ hy, hc]
    simp only
    rw [setF_ne _ _ _ hy]
end Go.Proofs.YtgigigchjnnonaaDoor
