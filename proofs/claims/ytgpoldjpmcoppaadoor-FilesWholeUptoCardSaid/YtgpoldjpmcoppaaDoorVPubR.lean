/- A Publish where the power stays on: whole, or no room. -/
import Derived.Test.YtgpoldjpmcoppaaDoorVPubP
set_option linter.unusedSimpArgs false
set_option linter.unusedVariables false
set_option maxRecDepth 20000
namespace Go.Proofs.YtgpoldjpmcoppaaDoor
open Go Go.V
/-- Where the power is on: an append has room, or there is none. -/
theorem append_room {s : St} (h : Peace s) {n : Nm} {x : Nat} (hx : s.now n = some x) (b : List Int) :
    ((b.length : Int) ≤ s.room - heldS s ∧ appendS s n b = ({ s with ops := s.ops + 1, dat := setF s.dat x (s.dat x ++ b) }, 0)) ∨ (s.room - heldS s < b.length ∧ appendS s n b = (s, 80)) := by
  by_cases hr : s.room - heldS s < b.length
  · right
    refine ⟨hr, ?_⟩
    unfold appendS
    rw [find_calm h hx]
    simp only
    rw [if_pos hr]
  · exact .inl ⟨by omega, append_calm h hx (by omega)⟩
theorem putS_full {s : St} (h : Peace s) {w : WrS} {x : Nat} (hx : s.now w.name = some x) {k : Int} {p : List Int} (hk : k = 1 ∨ k = 2 ∨ k = 3) (hp : p.length ≤ 1024) (hr : s.room - heldS s < 12 + p.length) : (putS s w k p).1 = s ∧ (putS s w k p).2.2 = 80 := by
  have ha : appendS s w.name (encL k p) = (s, 80) := by
    rcases append_room h hx (encL k p) with ⟨h1, _⟩ | ⟨_, h2⟩
    · rw [encL_len] at h1; omega
    · exact h2
  unfold putS
  rw [if_neg (not_not_intro (encE_ok hk hp)), ha]
  simp
/-- What a Publish that has no room finds: its own file under the name t, the others as they were. -/
structure Mid (s s' : St) (t : Nm) (f : Nat) : Prop where
  pc : Peace s'
  now : s'.now t = some f
  other : ∀ k, k ≠ t → s'.now k = s.now k
  last : s'.last = s.last
  dat : ∀ g ∈ s.held, s'.dat g = s.dat g ∧ s'.syn g = s.syn g
structure Left (s s' : St) : Prop where
  pc : Peace s'
  now : s'.now = s.now
  last : s'.last = s.last
  dat : ∀ g ∈ s.held, s'.dat g = s.dat g ∧ s'.syn g = s.syn g
theorem fail_mid {s s' : St} {t : Nm} {f : Nat} (h : Mid s s' t f) (hf : f ∉ s.held) (ok : Ok s) (ht : s.now t = none) : ∃ s2, failS s' t false 80 = (s2, 80) ∧ Left s s2 := by
  have hth : thereS s' t = true := by unfold thereS; rw [size_calm h.pc h.now]; exact decide_eq_true rfl
  have hr : removeS s' t = ({ s' with ops := s'.ops + 1, now := moveD s'.now f emptyNm, pend := s'.pend ++ [(f, emptyNm)] }, 0) := by
    unfold removeS
    rw [find_calm h.pc h.now]
    simp only
    unfold pendS
    exact count_calm h.pc.arm
  have hok := remove_ok h.pc.ok t
  rw [hr] at hok
  refine ⟨_, by unfold failS; rw [if_pos ⟨by decide, rfl, hth⟩, hr]; rfl, ⟨hok, h.pc.on, h.pc.arm⟩, ?_, h.last, h.dat⟩
  funext k
  show moveD s'.now f emptyNm k = s.now k
  unfold moveD
  rw [if_neg (fun e => e.2 rfl)]
  by_cases hk : k = t
  · subst hk; rw [if_pos h.now, ht]
  · rw [h.other k hk, if_neg (fun e => hf (ok.nowH _ _ e))]
theorem stI_mid {s : St} {t : Nm} {f : Nat} {hd : List Int} {l : List (List Int)} (h : InS s t f hd l) (hf : f ∉ s.held) (ok : Ok s) : Mid s (stI s t f hd l) t f := by
  refine ⟨h.pc, h.now, fun k hk => ?_, rfl, fun g hg => ?_⟩
  · show moveD s.now f t k = s.now k
    rw [move_ne hk (fun e => hf (ok.nowH _ _ e))]
  · have : g ≠ f := by rintro rfl; exact hf hg
    exact ⟨setF_ne _ _ _ this, setF_ne _ _ _ this⟩
theorem create_mid {s : St} (h : Peace s) {t : Nm} {f : Nat} (ht : isNm t = true) (hx : s.now t = none) (hf : f ∉ s.held) : Mid s (createS s t f).1 t f ∧ (createS s t f).2 = 0 := by
  have hc := create_calm h ht (x := f) hx
  have hok := create_ok h.ok t hf
  rw [hc] at hok ⊢
  refine ⟨⟨⟨hok, h.on, h.arm⟩, move_same (isNm_ne ht), fun k hk => move_ne hk (fun e => hf (h.ok.nowH _ _ e)), rfl, fun g hg => ?_⟩, rfl⟩
  have : g ≠ f := by rintro rfl; exact hf hg
  exact ⟨setF_ne _ _ _ this, setF_ne _ _ _ this⟩
theorem begin_room {s : St} (h : Peace s) {t : Nm} {f : Nat} (ht : isNm t = true) (hx : s.now t = none) (hf : f ∉ s.held) {hd : List Int} (hl : hd.length ≤ 1024) (hb : Byt hd) :
    (beginW s t f hd = (stI s t f hd [], wrI t hd [], 0) ∧ InS s t f hd []) ∨ (Mid s (beginW s t f hd).1 t f ∧ (beginW s t f hd).2.2 = 80) := by
  by_cases hr : heldS s + (12 + hd.length) ≤ s.room
  · obtain ⟨h1, h2, _, h4⟩ := begin_peace h ht hx hf hl hb hr
    exact .inl ⟨h1, h2, h4⟩
  · right
    obtain ⟨m, he⟩ := create_mid h ht hx hf
    have hh : heldS (createS s t f).1 = heldS s := by
      rw [create_calm h ht (x := f) hx]
      unfold heldS
      simp only [List.map_append, List.sum_append, List.map_cons, List.map_nil, List.sum_cons, List.sum_nil, setF_same, List.length_nil]
      have : (s.held.map fun g => ((setF s.dat f [] g).length : Int)) = s.held.map fun g => ((s.dat g).length : Int) := by
        apply List.map_congr_left
        intro g hg
        rw [setF_ne _ _ _ (by rintro rfl; exact hf hg)]
      rw [this]; simp
    have hrm : (createS s t f).1.room = s.room := by rw [create_calm h ht (x := f) hx]
    have hp := putS_full m.pc (w := newW t) m.now (k := 1) (p := hd) (by omega) hl (by rw [hh, hrm]; omega)
    unfold beginW
    rw [if_neg (by omega), if_neg (not_not_intro he)]
    exact ⟨by rw [hp.1]; exact m, hp.2⟩
theorem put_room {s : St} {t : Nm} {f : Nat} {hd : List Int} {l : List (List Int)} (h : InS s t f hd l) (hf : f ∉ s.held) {p : List Int} (hp : p.length ≤ 1024) (hb : Byt p) :
    (putW (stI s t f hd l) (wrI t hd l) p = (stI s t f hd (l ++ [p]), wrI t hd (l ++ [p]), 0) ∧ InS s t f hd (l ++ [p])) ∨ ((putW (stI s t f hd l) (wrI t hd l) p).1 = stI s t f hd l ∧ (putW (stI s t f hd l) (wrI t hd l) p).2.2 = 80) := by
  have hh := stI_held (n := t) hf hd l
  have hrm : (stI s t f hd l).room = s.room := rfl
  by_cases hr : heldS s + (rowB (rowI hd l)).length + (12 + p.length) ≤ s.room
  · exact .inl (putW_peace h hf hp hb hr)
  · right
    have hps := putS_full h.pc (w := wrI t hd l) h.now (k := 2) (p := p) (by omega) hp (by rw [hh, hrm]; omega)
    unfold putW
    rw [if_neg (by simp [wrI]), if_neg (by rw [hps.2]; decide)]
    exact hps
theorem end_room {s : St} {t : Nm} {f : Nat} {hd : List Int} {l : List (List Int)} (h : InS s t f hd l) (hf : f ∉ s.held) :
    ((endW (stI s t f hd l) (wrI t hd l) true).1 = doneS s t f hd l true ∧ (endW (stI s t f hd l) (wrI t hd l) true).2.2.2.2 = 0 ∧ Peace (doneS s t f hd l true) ∧ (doneS s t f hd l true).now t = some f) ∨ ((endW (stI s t f hd l) (wrI t hd l) true).1 = stI s t f hd l ∧ (endW (stI s t f hd l) (wrI t hd l) true).2.2.2.2 = 80) := by
  have hh := stI_held (n := t) hf hd l
  have hrm : (stI s t f hd l).room = s.room := rfl
  by_cases hr : heldS s + (rowB (rowI hd l)).length + 16 ≤ s.room
  · obtain ⟨e1, e2, e3⟩ := endW_peace h hf true hr
    exact .inl ⟨by rw [e1], by rw [e1], e2, e3⟩
  · right
    have h4 : (be4 (l.length : Int)).length = 4 := rfl
    have hps := putS_full h.pc (w := wrI t hd l) h.now (k := 3) (p := be4 l.length) (by omega) (by omega) (by rw [hh, hrm, h4]; omega)
    have hdw : (wrI t hd l).data = l.length := rfl
    unfold endW
    rw [if_neg (by simp [wrI]), hdw]
    simp only [hps.2]
    rw [if_neg (by decide)]
    exact ⟨hps.1, by rw [if_pos (show (80 : Int) ≠ 0 by decide)]⟩
/-- What a Publish that answered OK leaves. -/
structure Pubd (s' : St) (n : Nm) (f : Nat) (hd : List Int) (l : List (List Int)) : Prop where
  pc : Peace s'
  now : s'.now n = some f
  dat : s'.dat f = rowB (fileR hd l)
  last : s'.last = s'.now
theorem rename_calm {s : St} (h : Peace s) {t n : Nm} {x : Nat} (hx : s.now t = some x) (hn : isNm n = true) : renameS s t n = ({ s with ops := s.ops + 1, now := moveD s.now x n, pend := s.pend ++ [(x, n)] }, 0) := by
  unfold renameS
  have hb : beginS s [t, n] = 0 := by unfold beginS; simp [h.ok.nowN _ _ hx, hn, h.on]
  rw [hb, hx]
  simp only [ne_eq, not_true, if_false]
  unfold pendS
  exact count_calm h.arm
theorem syncDir_calm {s : St} (h : Peace s) : syncDirS s = (settleS { s with ops := s.ops + 1 }, 0) := by
  unfold syncDirS
  rw [if_neg (by rw [h.on]; decide), count_calm h.arm]
  simp only [if_true]
theorem pub_room {s : St} (h : Peace s) {n : Nm} (hn : isNm n = true) (ht : isNm (tn n) = true) (hx : s.now (tn n) = none) {f : Nat} (hf : f ∉ s.held) {hd : List Int} {l : List (List Int)} (hl : hd.length ≤ 1024) (hb : Byt hd) (h2 : ∀ p ∈ l, p.length ≤ 1024 ∧ Byt p) :
    (∃ s', pubS s n hd l f = (s', 0) ∧ Pubd s' n f hd l ∧ s'.now = moveD (moveD s.now f (tn n)) f n ∧ s'.room = s.room) ∨ ∃ s', pubS s n hd l f = (s', 80) ∧ Left s s' := by
  have hwas : thereS s (tn n) = false := by
    unfold thereS sizeS findS
    rw [begin_calm h.on ht]
    simp [hx]
  have key : ∀ (k j : Nat), k + j = l.length + 4 → 1 ≤ j → j ≤ l.length + 1 → InS s (tn n) f hd (l.take (j - 1)) →
      (∃ s', goP n hd l f false k j ⟨stI s (tn n) f hd (l.take (j - 1)), wrI (tn n) hd (l.take (j - 1))⟩ = (s', 0) ∧ Pubd s' n f hd l ∧ s'.now = moveD (moveD s.now f (tn n)) f n ∧ s'.room = s.room) ∨ ∃ s', goP n hd l f false k j ⟨stI s (tn n) f hd (l.take (j - 1)), wrI (tn n) hd (l.take (j - 1))⟩ = (s', 80) ∧ Left s s' := by
    intro k
    induction k with
    | zero => intro j h1 h2 h3; omega
    | succ k ih =>
      intro j h1 h2' h3 hin
      by_cases hj : j ≤ l.length
      · have hjl : j - 1 < l.length := by omega
        have hp := h2 _ (mem_getD hjl [])
        have es : stepP n hd l f j ⟨stI s (tn n) f hd (l.take (j - 1)), wrI (tn n) hd (l.take (j - 1))⟩ = (⟨(putW (stI s (tn n) f hd (l.take (j - 1))) (wrI (tn n) hd (l.take (j - 1))) (l.getD (j - 1) [])).1, (putW (stI s (tn n) f hd (l.take (j - 1))) (wrI (tn n) hd (l.take (j - 1))) (l.getD (j - 1) [])).2.1⟩, (putW (stI s (tn n) f hd (l.take (j - 1))) (wrI (tn n) hd (l.take (j - 1))) (l.getD (j - 1) [])).2.2) := by
          unfold stepP; rw [if_neg (by omega), if_pos hj]
        rcases put_room hin hf hp.1 hp.2 with ⟨e1, e2⟩ | ⟨e1, e2⟩
        · rw [← take_getD hjl, show j - 1 + 1 = j by omega] at e1 e2
          have := ih (j + 1) (by omega) (by omega) (by omega) (by rw [Nat.add_sub_cancel]; exact e2)
          rw [Nat.add_sub_cancel] at this
          unfold goP
          rw [es, e1]
          simp only [if_true]
          exact this
        · right
          unfold goP
          rw [es]
          simp only [e1, e2]
          rw [if_neg (by decide)]
          exact fail_mid (stI_mid hin hf h.ok) hf h.ok hx
      · have ej : j = l.length + 1 := by omega
        subst ej
        have ek : k = 2 := by omega
        subst ek
        rw [show l.length + 1 - 1 = l.length by omega, List.take_length] at hin ⊢
        have es : stepP n hd l f (l.length + 1) ⟨stI s (tn n) f hd l, wrI (tn n) hd l⟩ = (⟨(endW (stI s (tn n) f hd l) (wrI (tn n) hd l) true).1, (endW (stI s (tn n) f hd l) (wrI (tn n) hd l) true).2.1⟩, (endW (stI s (tn n) f hd l) (wrI (tn n) hd l) true).2.2.2.2) := by
          unfold stepP; rw [if_neg (by omega), if_neg (by omega), if_pos rfl]
        rcases end_room hin hf with ⟨e1, e2, e3, e4⟩ | ⟨e1, e2⟩
        · left
          have hr := rename_calm e3 e4 hn
          have hrok := rename_ok e3.ok (tn n) n
          rw [hr] at hrok
          obtain ⟨R2, hR2⟩ : ∃ R2 : St, R2 = { doneS s (tn n) f hd l true with ops := (doneS s (tn n) f hd l true).ops + 1, now := moveD (doneS s (tn n) f hd l true).now f n, pend := (doneS s (tn n) f hd l true).pend ++ [(f, n)] } := ⟨_, rfl⟩
          rw [← hR2] at hr hrok
          have pcr : Peace R2 := ⟨hrok, by rw [hR2]; exact e3.on, by rw [hR2]; exact e3.arm⟩
          have hs := syncDir_calm pcr
          have hsok := syncDir_ok pcr.ok
          rw [hs] at hsok
          obtain ⟨w', hw'⟩ : ∃ w', w' = (endW (stI s (tn n) f hd l) (wrI (tn n) hd l) true).2.1 := ⟨_, rfl⟩
          have s2 : stepP n hd l f (l.length + 1 + 1) ⟨doneS s (tn n) f hd l true, w'⟩ = (⟨R2, w'⟩, 0) := by
            unfold stepP; rw [if_neg (by omega), if_neg (by omega), if_neg (by omega), if_pos (by omega)]; rw [hr]
          have s3 : stepP n hd l f (l.length + 1 + 1 + 1) ⟨R2, w'⟩ = (⟨settleS { R2 with ops := R2.ops + 1 }, w'⟩, 0) := by
            unfold stepP; rw [if_neg (by omega), if_neg (by omega), if_neg (by omega), if_neg (by omega)]; rw [hs]
          have en : (settleS { R2 with ops := R2.ops + 1 }).now = moveD (moveD s.now f (tn n)) f n := by rw [hR2]; rfl
          refine ⟨settleS { R2 with ops := R2.ops + 1 }, ?_, ⟨⟨hsok, pcr.on, pcr.arm⟩, ?_, ?_, rfl⟩, en, by rw [hR2]; rfl⟩
          · unfold goP
            rw [es]
            simp only [e1, e2, if_true, ← hw']
            unfold goP
            rw [s2]
            simp only [if_true]
            unfold goP
            rw [s3]
            simp only [if_true]
            rfl
          · rw [en]; exact move_same (isNm_ne hn)
          · rw [hR2]; exact setF_same _ _ _
        · right
          unfold goP
          rw [es]
          simp only [e1, e2]
          rw [if_neg (by decide)]
          exact fail_mid (stI_mid hin hf h.ok) hf h.ok hx
  unfold pubS
  rw [hwas]
  have es : stepP n hd l f 0 ⟨s, newW (tn n)⟩ = (⟨(beginW s (tn n) f hd).1, (beginW s (tn n) f hd).2.1⟩, (beginW s (tn n) f hd).2.2) := by unfold stepP; rw [if_pos rfl]
  have eg : goP n hd l f false (l.length + 4) 0 ⟨s, newW (tn n)⟩ = if (stepP n hd l f 0 ⟨s, newW (tn n)⟩).2 = 0 then goP n hd l f false (l.length + 3) 1 (stepP n hd l f 0 ⟨s, newW (tn n)⟩).1 else failS (stepP n hd l f 0 ⟨s, newW (tn n)⟩).1.s (tn n) false (stepP n hd l f 0 ⟨s, newW (tn n)⟩).2 := rfl
  rw [eg, es]
  rcases begin_room h ht hx hf hl hb with ⟨e1, e2⟩ | ⟨e1, e2⟩
  · rw [e1]
    simp only [if_true]
    exact key (l.length + 3) 1 (by omega) (by omega) (by omega) e2
  · simp only [e2]
    rw [if_neg (by decide)]
    exact .inr (fail_mid e1 hf h.ok hx)
end Go.Proofs.YtgpoldjpmcoppaaDoor
