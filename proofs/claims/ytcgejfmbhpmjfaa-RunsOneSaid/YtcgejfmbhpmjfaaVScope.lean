/- A scope whose run jumps back to one label. -/
import Derived.Test.YtcgejfmbhpmjfaaVBase
import Derived.ScopeJumps
set_option linter.unusedSimpArgs false
set_option linter.unusedVariables false
set_option maxRecDepth 20000
namespace Go.V
open Go
def findL : Cmd → Nat → Option Cmd
  | .seq a b, l => match findL a l with
    | some r => some (.seq r b)
    | none => findL b l
  | .label l', l => if l' == l then some .skip else none
  | _, _ => none
theorem findL_comp (n l : Nat) : ∀ c : Code, findL (comp n c) l = (findLabel c l).map (comp n) := by
  intro c
  induction c with
  | seq a b iha ihb =>
    simp only [comp, findL, findLabel, iha]
    cases findLabel a l with
    | none => simpa using ihb
    | some r => rfl
  | label l' =>
    simp only [comp, findL, findLabel]
    split <;> rfl
  | region id ops d =>
    cases d with
    | false =>
      simp only [comp, findLabel, Option.map_none]
      split <;> rfl
    | true =>
      simp only [comp, findLabel, Option.map_none]
      split
      · split
        · rfl
        · split
          · split
            · rfl
            · unfold drawC
              split
              · split
                · split <;> rfl
                · rfl
              · rfl
          · unfold drawC
            split
            · split
              · split <;> rfl
              · rfl
            · rfl
      · rfl
  | _ => rfl
/-- As Q; by a jump to label l: J. -/
def Post.jump (l : Nat) (J : Env → Heap → Prop) (Q : Post) : Post
  | .goto l', ρ, H => l' = l ∧ J ρ H
  | e, ρ, H => Q e ρ H
section
variable {l : Nat} {J : Env → Heap → Prop} {Q : Post} {ρ : Env} {H : Heap}
@[go_sem ↓] theorem jump_norm : Post.jump l J Q .norm ρ H = Q .norm ρ H := propext Iff.rfl
@[go_sem ↓] theorem jump_ret : Post.jump l J Q .ret ρ H = Q .ret ρ H := propext Iff.rfl
@[go_sem ↓] theorem jump_exit {i : Nat} : Post.jump l J Q (.exit i) ρ H = Q (.exit i) ρ H := propext Iff.rfl
@[go_sem ↓] theorem jump_goto {i : Nat} : Post.jump l J Q (.goto i) ρ H = (i = l ∧ J ρ H) := propext Iff.rfl
end
theorem scope_rule {P : Program} {n : Nat} (hm : P.follows .mixedOrders = true) {m rest : Cmd} {ρ : Env} {H : Heap} {Q : Post} (l : Nat) (hf : findL m l = some rest) (J : Env → Heap → Prop) (μ : Env → Heap → Nat)
    (first : m.vc P (tyOf P) n ρ H (Post.jump l J Q)) (pass : ∀ ρ H, J ρ H → rest.vc P (tyOf P) n ρ H (Post.jump l (fun ρ' H' => J ρ' H' ∧ μ ρ' H' < μ ρ H) Q)) : ScopeV P n m ρ H Q := by
  intro c hc a w hh hw
  subst hw
  have hl := findL_comp n l c
  rw [hc, hf] at hl
  cases hr : findLabel c l with
  | none => rw [hr] at hl; cases hl
  | some rc =>
    rw [hr] at hl
    have hrc : comp n rc = rest := by simpa using hl.symm
    refine wp_scope_jumps l (fun a' w' => ∃ ρ', Has n a' ρ' ∧ Same w w' ∧ J ρ' w'.heap) (fun a' w' => μ (fun t => a'.tmps.getD t undef) w'.heap) hr ?_ ?_
    · refine wp_mono (vc_sound (tyOf_ok P) hm c m hc ρ _ _ first a w hh rfl) ?_
      rintro e a' w' ⟨x, ρ', rfl, hh', hs, hq⟩
      cases x with
      | norm => exact ⟨.norm, ρ', rfl, hh', hs, hq⟩
      | ret => exact ⟨.ret, ρ', rfl, hh', hs, hq⟩
      | exit i => exact ⟨.exit i, ρ', rfl, hh', hs, hq⟩
      | goto l' => exact ⟨hq.1, ρ', hh', hs, hq.2⟩
    · rintro a1 w1 ⟨ρ1, hh1, hs1, hJ⟩
      refine wp_mono (vc_sound (tyOf_ok P) hm rc rest hrc ρ1 _ _ (pass ρ1 _ hJ) a1 w1 hh1 rfl) ?_
      rintro e a2 w2 ⟨x, ρ2, rfl, hh2, hs2, hq⟩
      cases x with
      | norm => exact ⟨.norm, ρ2, rfl, hh2, hs1.trans hs2, hq⟩
      | ret => exact ⟨.ret, ρ2, rfl, hh2, hs1.trans hs2, hq⟩
      | exit i => exact ⟨.exit i, ρ2, rfl, hh2, hs1.trans hs2, hq⟩
      | goto l' =>
        have e1 : (fun t => a1.tmps.getD t undef) = ρ1 := funext hh1.get
        have e2 : (fun t => a2.tmps.getD t undef) = ρ2 := funext hh2.get
        refine ⟨hq.1, ⟨ρ2, hh2, hs1.trans hs2, hq.2.1⟩, ?_⟩
        show μ (fun t => a2.tmps.getD t undef) w2.heap < μ (fun t => a1.tmps.getD t undef) w1.heap
        rw [e1, e2]
        exact hq.2.2
/-- The scope's rule as it is used: its walk up to the label, and one pass from there, whatever the jump is to bring about. -/
theorem ScopeI.by {P : Program} (hm : P.follows .mixedOrders = true) {n : Nat} {m rest : Cmd} {ρ : Env} {H : Heap} {Q : Post} (l : Nat) (hf : findL m l = some (.seq .skip rest)) (J : Env → Heap → Prop) (μ : Env → Heap → Nat)
    (first : ∀ K : Post, (∀ ρ' H', J ρ' H' → @vcI P (tyOf P) n (Stop rest) ρ' H' ⟨K⟩) → @vcI P (tyOf P) n m ρ H ⟨K⟩)
    (pass : ∀ ρ H (J' : Env → Heap → Prop), J ρ H → (∀ ρ' H', J ρ' H' → μ ρ' H' < μ ρ H → J' ρ' H') → @vcI P (tyOf P) n rest ρ H ⟨Post.jump l (@Hold ⟨J'⟩) Q⟩) : @ScopeI P n m ρ H ⟨Q⟩ := by
  refine scope_rule hm l hf J μ ?_ ?_
  · refine first _ fun ρ' H' hJ => ?_
    exact pass ρ' H' J hJ fun _ _ h _ => h
  · intro ρ' H' hJ
    exact pass ρ' H' (fun ρ'' H'' => J ρ'' H'' ∧ μ ρ'' H'' < μ ρ' H') hJ fun _ _ h1 h2 => ⟨h1, h2⟩
theorem least_of {p : Nat → Prop} (h : ∃ n, p n) : ∃ n, p n ∧ ∀ m, p m → n ≤ m := by
  obtain ⟨n, hn⟩ := h
  induction n using Nat.strongRecOn with
  | _ n ih =>
    by_cases hm : ∃ m, m < n ∧ p m
    · obtain ⟨m, h1, h2⟩ := hm
      exact ih m h1 h2
    · refine ⟨n, hn, fun m h => ?_⟩
      by_cases h1 : m < n
      · exact absurd ⟨m, h1, h⟩ hm
      · omega
/-- A loop whose rounds are counted by a number that stands in neither frame nor heap. -/
theorem LoopI.byN {P : Program} (hm : P.follows .mixedOrders = true) {n : Nat} {m : Cmd} {ρ : Env} {H : Heap} {Q : Post} (I : Nat → Env → Heap → Prop) (n0 : Nat) (h0 : I n0 ρ H)
    (hr : ∀ k ρ H (J : Env → Heap → Prop), I k ρ H → (∀ k' ρ' H', k' < k → I k' ρ' H' → J ρ' H') → @vcI P (tyOf P) n m ρ H ⟨Post.seq (@Hold ⟨J⟩) Q⟩) : @LoopI P n m ρ H ⟨Q⟩ := by
  classical
  refine loopV_rule (tyOf_ok P) hm (fun ρ H => ∃ k, I k ρ H) (fun ρ H => if h : ∃ k, I k ρ H then Classical.choose (least_of h) else 0) ⟨n0, h0⟩ ?_
  intro ρ H hI
  have h1 := Classical.choose_spec (least_of hI)
  refine hr (Classical.choose (least_of hI)) ρ H (fun ρ' H' => (∃ k, I k ρ' H') ∧ _) h1.1 fun k' ρ' H' hlt hI' => ⟨⟨k', hI'⟩, ?_⟩
  have hex : ∃ k, I k ρ' H' := ⟨k', hI'⟩
  have h2 := (Classical.choose_spec (least_of hex)).2 k' hI'
  rw [dif_pos hex, dif_pos hI]
  exact Nat.lt_of_le_of_lt h2 hlt
end Go.V
