/- A merger as one thing: its sources and the blocks that it holds. -/
import Derived.Test.YtcgejfmbhpmjfaaVNext
set_option linter.unusedSimpArgs false
set_option linter.unusedVariables false
set_option maxRecDepth 20000
namespace Go.V
open Go
/-- Blocks from B on alone have turned. -/
theorem Ch.upto {F F' : Nat → Prop} {H H' : Heap} (h : Ch F F' H H') {B : Nat} (hf : ∀ b, F b → B ≤ b) (hB : B ≤ H.size) : Upto B H H' :=
  ⟨h.size, fun b hb => h.get b (by omega) fun hh => by have := hf b hh; omega⟩
theorem Ch.ge {F F' : Nat → Prop} {H H' : Heap} (h : Ch F F' H H') {B : Nat} (hf : ∀ b, F b → B ≤ b) (hB : B ≤ H.size) : ∀ b, F' b → B ≤ b := fun b hb => by
  rcases h.old b hb with e | e
  · exact hf b e
  · omega
/-- What was no part of it is none now. -/
theorem Ch.notin {F F' : Nat → Prop} {H H' : Heap} (h : Ch F F' H H') {c : Nat} (hc : c < H.size) (hn : ¬ F c) : ¬ F' c := fun hf => by
  rcases h.old c hf with e | e
  · exact hn e
  · omega
end Go.V
namespace Go.Proofs.Ytcgejfmbhpmjfaa
open Go Go.V
-- 26: pith/runs.New
-- 35: (*pith/runs.Merger).Give
-- 40: (*pith/runs.Merger).Next
-- 37: (*pith/runs.Merger).Wants
-- 38: (*pith/runs.Merger).Left
/-- The merger m holds the sources ss, in the blocks F. -/
def Mg (m : Value) (ss : List Src) (F : Nat → Prop) (H : Heap) : Prop :=
  ∃ M Cb S lvs hv hp, m = .pointer (some ⟨M, 0, none⟩) ∧ MerH H F M Cb S lvs hv ss hp ∧ MS ss hp ∧ ∀ b, F b → b < H.size
theorem ch_tight {F F' : Nat → Prop} {H H' : Heap} (h : Ch F F' H H') : Ch F (fun b => F' b ∧ b < H'.size) H H' := ⟨h.size, fun b hb => h.old b hb.1, h.get⟩
theorem Mg.ext {m : Value} {ss : List Src} {F : Nat → Prop} {H H' : Heap} (h : Mg m ss F H) (hx : Ext H H') : Mg m ss F H' := by
  obtain ⟨M, Cb, S, lvs, hv, hp, rfl, h1, h2, h3⟩ := h
  exact ⟨M, Cb, S, lvs, hv, hp, rfl, h1.ext hx, h2, fun b hb => Nat.lt_of_lt_of_le (h3 b hb) hx.size⟩
theorem Mg.lt {m : Value} {ss : List Src} {F : Nat → Prop} {H : Heap} (h : Mg m ss F H) {b : Nat} (hb : F b) : b < H.size := by
  obtain ⟨M, Cb, S, lvs, hv, hp, rfl, h1, h2, h3⟩ := h
  exact h3 b hb
/-- What another's blocks turn leaves it alone. -/
theorem Mg.keep {m : Value} {ss : List Src} {F G G' : Nat → Prop} {H H' : Heap} (h : Mg m ss F H) (hc : Ch G G' H H') (hd : ∀ b, F b → ¬ G b) : Mg m ss F H' ∧ ∀ b, F b → ¬ G' b := by
  obtain ⟨M, Cb, S, lvs, hv, hp, rfl, h1, h2, h3⟩ := h
  exact ⟨⟨M, Cb, S, lvs, hv, hp, rfl, h1.keep fun b hb => hc.get b (h3 b hb) (hd b hb), h2, fun b hb => Nat.lt_of_lt_of_le (h3 b hb) hc.size⟩, fun b hb => hc.notin (h3 b hb) (hd b hb)⟩
theorem Mg.ms {m : Value} {ss : List Src} {F : Nat → Prop} {H : Heap} (h : Mg m ss F H) : ∃ hp, MS ss hp := by
  obtain ⟨M, Cb, S, lvs, hv, hp, rfl, h1, h2, h3⟩ := h
  exact ⟨hp, h2⟩
theorem Mg.len {m : Value} {ss : List Src} {F : Nat → Prop} {H : Heap} (h : Mg m ss F H) : ss.length ≤ 64 := by
  obtain ⟨M, Cb, S, lvs, hv, hp, rfl, h1, h2, h3⟩ := h
  exact h1.k64
theorem MS.new (k : Nat) : MS (List.replicate k default) [] := by
  have e : ∀ i, i < k → sg (List.replicate k default) i = default := fun i hi => by
    unfold sg
    rw [List.getD_eq_getElem?_getD, List.getElem?_replicate, if_pos hi]; rfl
  refine ⟨by simp, fun i => ?_, fun j h0 hj => by simp at hj, fun i hi => ?_, fun i hi hn => ?_⟩
  · constructor
    · intro h; simp at h
    · rintro ⟨h1, h2⟩
      rw [List.length_replicate] at h1
      rw [e i h1] at h2
      exact absurd rfl h2
  · rw [List.length_replicate] at hi
    rw [e i hi]
    exact List.Pairwise.nil
  · rw [List.length_replicate] at hi
    rw [e i hi] at hn
    exact absurd rfl hn
theorem mg_new (k : Nat) (H : Heap) (hk : k ≤ 64) : Fun Try.prog 26 #[.int .i64 k] H (fun r H' => ∃ F M, r = .pointer (some ⟨M, 0, none⟩) ∧ Mg r (List.replicate k default) F H' ∧ (∀ b, F b → H.size ≤ b) ∧ Ext H H') := by
  refine (F26 k H hk).mono ?_
  rintro r H' ⟨F, M, Cb, S, lvs, hv, rfl, h1, h2, h3⟩
  exact ⟨_, M, rfl, ⟨M, Cb, S, lvs, hv, [], rfl, h1.tight, MS.new k, fun b hb => hb.2⟩, fun b hb => h2 b hb.1, h3⟩
theorem mg_give {m : Value} {ss : List Src} {F : Nat → Prop} {H : Heap} (h : Mg m ss F H) (i : Int) {v : Value} {l : List Pr} (hv' : Prs H v l) (hf : ∀ b, blk v = some b → ¬ F b) (last : Bool)
    (hb : ∀ j, j < ss.length → (sg ss j).l.length + l.length ≤ 8796093020000) :
    Fun Try.prog 35 #[m, .int .i64 i, v, .bool last] H (fun r H' => r = .int .i64 (giveS ss i l last).2 ∧ ∃ F', Mg m (giveS ss i l last).1 F' H' ∧ Ch F F' H H') := by
  obtain ⟨M, Cb, S, lvs, hv, hp, rfl, h1, h2, h3⟩ := h
  refine (F35 h1 h2 i hv' hf last hb).mono ?_
  rintro r H' ⟨rfl, F', lvs', hv1, hp', k1, k2, k3⟩
  exact ⟨rfl, _, ⟨M, Cb, S, lvs', hv1, hp', rfl, k1.tight, k2, fun b hb => hb.2⟩, ch_tight k3⟩
theorem mg_next {m : Value} {ss : List Src} {F : Nat → Prop} {H : Heap} (h : Mg m ss F H) (hb : ∀ j, j < ss.length → (sg ss j).l.length ≤ 8796093020000) :
    Fun Try.prog 40 #[m] H (fun r H' => ∃ o ss', r = .tuple #[pv (o.getD (0, 0)), .bool o.isSome] ∧ NextR ss o ss' ∧ ∃ F', Mg m ss' F' H' ∧ Ch F F' H H') := by
  obtain ⟨M, Cb, S, lvs, hv, hp, rfl, h1, h2, h3⟩ := h
  refine (F40 h1 h2 hb).mono ?_
  rintro r H' ⟨o, ss', rfl, hn, F', lvs', hv1, hp', k1, k2, k3⟩
  exact ⟨o, ss', rfl, hn, _, ⟨M, Cb, S, lvs', hv1, hp', rfl, k1.tight, k2, fun b hb => hb.2⟩, ch_tight k3⟩
theorem mg_wants {m : Value} {ss : List Src} {F : Nat → Prop} {H : Heap} (h : Mg m ss F H) : Fun Try.prog 37 #[m] H (fun r H' => r = .int .i64 (wantsS ss) ∧ Ext H H') := by
  obtain ⟨M, Cb, S, lvs, hv, hp, rfl, h1, h2, h3⟩ := h
  exact F37 h1
theorem mg_left {m : Value} {ss : List Src} {F : Nat → Prop} {H : Heap} (h : Mg m ss F H) (hb : ∀ i, i < ss.length → (sg ss i).l.length ≤ 8796093020000) : Fun Try.prog 38 #[m] H (fun r H' => r = .int .i64 (leftS ss) ∧ Ext H H') := by
  obtain ⟨M, Cb, S, lvs, hv, hp, rfl, h1, h2, h3⟩ := h
  exact F38 h1 hb
end Go.Proofs.Ytcgejfmbhpmjfaa
