/- What the law RunsOne holds in memory while it plays. -/
import Derived.Test.YtcgejfmbhpmjfaaVOneP
set_option linter.unusedSimpArgs false
set_option linter.unusedVariables false
set_option maxRecDepth 20000
namespace Go.V
open Go
theorem Ch.next {A S P P' S' : Nat → Prop} {G H H' : Heap} (h : Ch A S G H) (k : Ch P P' H H') (hP : ∀ b, P b → S b) (hS : ∀ b, S' b → P' b ∨ S b) : Ch A S' G H' := by
  refine ⟨Nat.le_trans h.size k.size, fun b hb => ?_, fun b hb hn => ?_⟩
  · rcases hS b hb with e | e
    · rcases k.old b e with e2 | e2
      · exact h.old b (hP b e2)
      · exact .inr (Nat.le_trans h.size e2)
    · exact h.old b e
  · have n1 := h.notin hb hn
    rw [k.get b (Nat.lt_of_lt_of_le hb h.size) fun e => n1 (hP b e), h.get b hb hn]
end Go.V
namespace Go.Proofs.Ytcgejfmbhpmjfaa
open Go Go.V
-- 36: pith/pithlaw11.told
-- 35: (*pith/runs.Merger).Give
-- 3: int
-- 4: bool
-- 24: pith/api.Pair
structure StF (G6 : Heap) (A0 : Nat → Prop) (m : Value) (ga ge n : Nat) (ss : List Src) (ats : List Nat) (ens : List Bool) (w : Value) (out : List Pr) (H : Heap) (F : Nat → Prop) : Prop where
  mg : Mg m ss F H
  oa : Own H 0 3 1 (.slice (some ⟨ga, 0, none⟩) n n) (hpI ats)
  oe : Own H 0 4 1 (.slice (some ⟨ge, 0, none⟩) n n) (ens.map .bool)
  ow : Own H G6.size 24 2 w (cp out)
  na : ¬ F ga
  ne : ¬ F ge
  nw : ∀ g, blk w = some g → ¬ F g
  ch : Ch A0 (fun b => F b ∨ b = ga ∨ b = ge ∨ blk w = some b) G6 H
def St (G6 : Heap) (A0 : Nat → Prop) (m : Value) (ga ge n : Nat) (ss : List Src) (ats : List Nat) (ens : List Bool) (w : Value) (out : List Pr) (H : Heap) : Prop := ∃ F, StF G6 A0 m ga ge n ss ats ens w out H F
section
variable {G6 H H' : Heap} {A0 : Nat → Prop} {m w : Value} {ga ge n : Nat} {ss : List Src} {ats : List Nat} {ens : List Bool} {out : List Pr}
theorem St.ext (h : St G6 A0 m ga ge n ss ats ens w out H) (hx : Ext H H') : St G6 A0 m ga ge n ss ats ens w out H' := by
  obtain ⟨F, h⟩ := h
  exact ⟨F, h.mg.ext hx, h.oa.ext hx, h.oe.ext hx, h.ow.ext hx, h.na, h.ne, h.nw, h.ch.next (P := fun _ => False) (Ext.ch hx) (fun _ hh => hh.elim) (fun _ hh => .inr hh)⟩
theorem St.upto (h : St G6 A0 m ga ge n ss ats ens w out H) {B : Nat} (hA : ∀ b, A0 b → B ≤ b) (hB : B ≤ G6.size) : Upto B G6 H := by
  obtain ⟨F, h⟩ := h
  exact h.ch.upto hA hB
theorem St.size (h : St G6 A0 m ga ge n ss ats ens w out H) : G6.size ≤ H.size := by
  obtain ⟨F, h⟩ := h
  exact h.ch.size
theorem St.form (h : St G6 A0 m ga ge n ss ats ens w out H) : (∃ a cap, w = .slice a out.length cap) ∧ Prs H w out := by
  obtain ⟨F, h⟩ := h
  exact ⟨prs_form (prs_own h.ow), prs_own h.ow⟩
theorem St.keep2 (h : St G6 A0 m ga ge n ss ats ens w out H) {B sz : Nat} {e : TypeId} {v : Value} {vs : List Value} (k : Own2 G6 B e sz v vs) (hn : ∀ g, blk v = some g → ¬ A0 g) : Own2 H B e sz v vs := by
  obtain ⟨F, h⟩ := h
  exact Own2.keep k fun g hg => h.ch.get g (Own2.blk k hg).2.1 (hn g hg)
theorem St.la (h : St G6 A0 m ga ge n ss ats ens w out H) : ats.length = n ∧ ens.length = n := by
  obtain ⟨F, h⟩ := h
  have h1 := Sl.length h.oa.sl
  have h2 := Sl.length h.oe.sl
  rw [hpI_len] at h1
  rw [List.length_map] at h2
  omega
theorem St.getA (h : St G6 A0 m ga ge n ss ats ens w out H) {k : Nat} (hk : k < n) : hget H ga k = some (.int .i64 (ats.getD k 0 : Nat)) := by
  have hl := h.la.1
  obtain ⟨F, h⟩ := h
  have := Sl.get h.oa.sl (i := k) (by omega)
  rw [Nat.zero_add] at this
  rw [this]
  unfold hpI
  rw [List.getElem?_map, List.getElem?_eq_getElem (by omega), List.getD_eq_getElem?_getD, List.getElem?_eq_getElem (by omega)]
  rfl
theorem St.getE (h : St G6 A0 m ga ge n ss ats ens w out H) {k : Nat} (hk : k < n) : hget H ge k = some (.bool (ens.getD k false)) := by
  have hl := h.la.2
  obtain ⟨F, h⟩ := h
  have := Sl.get h.oe.sl (i := k) (by omega)
  rw [Nat.zero_add] at this
  rw [this, List.getElem?_map, List.getElem?_eq_getElem (by omega), List.getD_eq_getElem?_getD, List.getElem?_eq_getElem (by omega)]
  rfl
theorem St.setA (h : St G6 A0 m ga ge n ss ats ens w out H) {k : Nat} (hk : k < n) (t : Nat) : hcan H ga k 1 ∧ St G6 A0 m ga ge n ss (ats.set k t) ens w out (hput H ga k [.int .i64 (t : Nat)]) := by
  obtain ⟨F, h⟩ := h
  obtain ⟨_, s1, s2, s3, _⟩ := h.oa.store hk (.int .i64 (t : Nat))
  rw [Nat.zero_add] at s1 s2 s3
  rw [hpI_set] at s2
  obtain ⟨_, _, ca, hca⟩ := h.oa.blk rfl
  have hc := hput_ch H ga k [.int .i64 (t : Nat)]
  refine ⟨s1, F, (h.mg.keep hc fun b hb e => h.na (e ▸ hb)).1, s2, ?_, ?_, h.na, h.ne, h.nw, h.ch.next hc (fun b e => .inr (.inl e)) (fun b e => .inr e)⟩
  · exact h.oe.keep fun g hg => by
      cases hg
      obtain ⟨_, _, ce, hce⟩ := h.oe.blk rfl
      exact hput_other _ _ _ _ (tag_ne hce hca (by decide))
  · exact h.ow.keep fun g hg => by
      obtain ⟨_, _, ce, hce⟩ := h.ow.blk hg
      exact hput_other _ _ _ _ (tag_ne hce hca (by decide))
theorem St.setE (h : St G6 A0 m ga ge n ss ats ens w out H) {k : Nat} (hk : k < n) (t : Bool) : hcan H ge k 1 ∧ St G6 A0 m ga ge n ss ats (ens.set k t) w out (hput H ge k [.bool t]) := by
  obtain ⟨F, h⟩ := h
  obtain ⟨_, s1, s2, s3, _⟩ := h.oe.store hk (.bool t)
  rw [Nat.zero_add] at s1 s2 s3
  rw [← List.map_set] at s2
  obtain ⟨_, _, ca, hca⟩ := h.oe.blk rfl
  have hc := hput_ch H ge k [.bool t]
  refine ⟨s1, F, (h.mg.keep hc fun b hb e => h.ne (e ▸ hb)).1, ?_, s2, ?_, h.na, h.ne, h.nw, h.ch.next hc (fun b e => .inr (.inr (.inl e))) (fun b e => .inr e)⟩
  · exact h.oa.keep fun g hg => by
      cases hg
      obtain ⟨_, _, ce, hce⟩ := h.oa.blk rfl
      exact hput_other _ _ _ _ (tag_ne hce hca (by decide))
  · exact h.ow.keep fun g hg => by
      obtain ⟨_, _, ce, hce⟩ := h.ow.blk hg
      exact hput_other _ _ _ _ (tag_ne hce hca (by decide))
/-- A list in a block that was new behind H1. -/
theorem St.give' {H1 : Heap} (h1 : St G6 A0 m ga ge n ss ats ens w out H1) (hx : Ext H1 H) (i : Int) {v : Value} {l : List Pr} (hv : Own H H1.size 24 2 v (cp l)) (last : Bool) (hb : ∀ j, j < ss.length → (sg ss j).l.length + l.length ≤ 8796093020000) :
    Fun Try.prog 35 #[m, .int .i64 i, v, .bool last] H (fun r H' => r = .int .i64 (giveS ss i l last).2 ∧ St G6 A0 m ga ge n (giveS ss i l last).1 ats ens w out H') := by
  obtain ⟨F, h⟩ := h1
  have hF : ∀ b, F b → b < H1.size := fun b hb => h.mg.lt hb
  have hn : ∀ g, blk v = some g → ¬ F g := fun g hg hf => by
    have := hF g hf
    have := (hv.blk hg).1
    omega
  have h2 : StF G6 A0 m ga ge n ss ats ens w out H F := ⟨h.mg.ext hx, h.oa.ext hx, h.oe.ext hx, h.ow.ext hx, h.na, h.ne, h.nw, h.ch.next (P := fun _ => False) (Ext.ch hx) (fun _ hh => hh.elim) (fun _ hh => .inr hh)⟩
  refine (mg_give h2.mg i (prs_own hv) hn last hb).mono ?_
  rintro r H' ⟨rfl, F', mg', ch'⟩
  refine ⟨rfl, F', mg', ?_, ?_, ?_, ?_, ?_, ?_, h2.ch.next ch' (fun b e => .inl e) (fun b e => by
    rcases e with e | e
    · exact .inl e
    · exact .inr (.inr e))⟩
  · exact h2.oa.keep fun g hg => by cases hg; exact ch'.get ga (h2.oa.blk rfl).2.1 h2.na
  · exact h2.oe.keep fun g hg => by cases hg; exact ch'.get ge (h2.oe.blk rfl).2.1 h2.ne
  · exact h2.ow.keep fun g hg => ch'.get g (h2.ow.blk hg).2.1 (h2.nw g hg)
  · exact ch'.notin (h2.oa.blk rfl).2.1 h2.na
  · exact ch'.notin (h2.oe.blk rfl).2.1 h2.ne
  · exact fun g hg => ch'.notin (h2.ow.blk hg).2.1 (h2.nw g hg)
theorem St.told (h : St G6 A0 m ga ge n ss ats ens w out H) (hb : ∀ j, j < ss.length → (sg ss j).l.length ≤ 8796093020000) (most : Nat) (hmost : most ≤ 4096093020000) (hol : out.length ≤ most + 1) :
    Fun Try.prog 36 #[m, w, .int .i64 most] H (fun r H' => ∃ ss' out', Told most ss out ss' out' ∧ St G6 A0 m ga ge n ss' ats ens r out' H') := by
  have hsz := h.size
  obtain ⟨F, h⟩ := h
  refine (F36 h.mg hb h.ow hsz h.nw most hmost hol).mono ?_
  rintro r H' ⟨ss', out', F', ow', ht, mg', nw', ch'⟩
  have na' : ¬ (F ga ∨ blk w = some ga) := by
    rintro (e | e)
    · exact h.na e
    · obtain ⟨_, _, c1, hc1⟩ := h.ow.blk e
      obtain ⟨_, _, c2, hc2⟩ := h.oa.blk rfl
      exact tag_ne hc1 hc2 (by decide) rfl
  have ne' : ¬ (F ge ∨ blk w = some ge) := by
    rintro (e | e)
    · exact h.ne e
    · obtain ⟨_, _, c1, hc1⟩ := h.ow.blk e
      obtain ⟨_, _, c2, hc2⟩ := h.oe.blk rfl
      exact tag_ne hc1 hc2 (by decide) rfl
  refine ⟨ss', out', ht, F', mg', ?_, ?_, ow', fun e => ch'.notin (h.oa.blk rfl).2.1 na' (.inl e), fun e => ch'.notin (h.oe.blk rfl).2.1 ne' (.inl e), nw', h.ch.next ch' (fun b e => ?_) (fun b e => ?_)⟩
  · exact h.oa.keep fun g hg => by cases hg; exact ch'.get ga (h.oa.blk rfl).2.1 na'
  · exact h.oe.keep fun g hg => by cases hg; exact ch'.get ge (h.oe.blk rfl).2.1 ne'
  · rcases e with e | e
    · exact .inl e
    · exact .inr (.inr (.inr e))
  · rcases e with e | e | e | e
    · exact .inl (.inl e)
    · exact .inr (.inr (.inl e))
    · exact .inr (.inr (.inr (.inl e)))
    · exact .inl (.inr e)
end
end Go.Proofs.Ytcgejfmbhpmjfaa
