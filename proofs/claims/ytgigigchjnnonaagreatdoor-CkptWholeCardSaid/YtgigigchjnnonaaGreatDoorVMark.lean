/- Slices that share: one of a row of slices grown, the others as they were; a slice cut short; bytes converted to bytes. -/
import Derived.Test.YtgigigchjnnonaaGreatDoorVData
set_option linter.unusedSimpArgs false
set_option linter.unusedVariables false
set_option maxRecDepth 20000
namespace Go.V
open Go

theorem All2.getL' {α β : Type} {R : α → β → Prop} : ∀ {l : List α} {r : List β}, All2 R l r → ∀ {i : Nat} {a : α}, l[i]? = some a → ∃ b, r[i]? = some b ∧ R a b
  | [], [], _, i, b, h => by simp at h
  | a :: l, c :: r, h, 0, b, hb => by simp at hb; subst hb; exact ⟨c, by simp, h.1⟩
  | a :: l, c :: r, h, i + 1, b, hb => by
    obtain ⟨x, hx, hr⟩ := All2.getL' h.2 (i := i) (by simpa using hb)
    exact ⟨x, by simpa using hx, hr⟩
  | [], _ :: _, h, _, _, _ => h.elim
  | _ :: _, [], h, _, _, _ => h.elim
/-- x[:n]. -/
def cut (v : Value) (n : Nat) : Value := match v with
  | .slice a _ cap => .slice a n cap
  | v => v
def Apart (u w : Value) : Prop := blk u = none ∨ blk u ≠ blk w
theorem Apart.symm {u w : Value} (h : Apart u w) : Apart w u := by
  unfold Apart at *
  cases hw : blk w with
  | none => exact .inl rfl
  | some g =>
    right
    rcases h with h | h
    · rw [h]; simp
    · rw [hw] at h; exact fun e => h e.symm
theorem Own.out {H H' : Heap} {B : Nat} {e : TypeId} {sz : Nat} {v u : Value} {vs : List Value} (h : V.Own H B e sz v vs) (hb : But (V.blk u) H H') (ha : Apart v u) : V.Own H' B e sz v vs := h.but hb ha

theorem Own.byTag {H H' : Heap} {B B' : Nat} {e e' : TypeId} {sz sz' : Nat} {v u : Value} {vs us : List Value} (h : V.Own H B e sz v vs) (hu : V.Own H B' e' sz' u us) (hb : But (V.blk u) H H') (hne : e ≠ e') : V.Own H' B e sz v vs :=
  h.keepT fun b c fr hc => hb.get b (Array.getElem?_eq_some_iff.1 hc).1 fun hbu => by
    obtain ⟨_, _, c', hc'⟩ := hu.blk hbu.symm
    rw [hc] at hc'
    cases hc'
    exact hne rfl

theorem All2.set {α β : Type} {R : α → β → Prop} : ∀ {l : List α} {r : List β} {i : Nat} {a : α} {b : β}, All2 R l r → R a b → All2 R (l.set i a) (r.set i b)
  | [], [], _, _, _, _, _ => by simp [All2]
  | _ :: _, _ :: _, 0, _, _, h, hab => ⟨hab, h.2⟩
  | _ :: _, _ :: _, i + 1, _, _, h, hab => ⟨h.1, All2.set h.2 hab⟩
  | [], _ :: _, _, _, _, h, _ => h.elim
  | _ :: _, [], _, _, _, h, _ => h.elim

end Go.V
