/- A Publish with the power failing at any operation, and the crash behind it: plainly. -/
import Derived.Test.YtgigigchjnnonaaGreatDoorVPubP
set_option linter.unusedSimpArgs false
set_option linter.unusedVariables false
set_option maxRecDepth 20000
namespace Go.Proofs.YtgigigchjnnonaaGreatDoor
open Go Go.V
/-- The power is still on; nothing is armed that was not. -/
structure Goes (s s' : St) : Prop where
  on : s'.off = false
  arm : s.fuse = 0 → s'.fuse = 0
theorem Goes.refl {s : St} (h : s.off = false) : Goes s s := ⟨h, fun e => e⟩
theorem count_cases {s0 s : St} (g : Goes s0 s) (h0 : 0 ≤ s0.fuse) (h1 : 0 ≤ s.fuse) : ((countS s).2 = 0 ∧ Goes s0 (countS s).1) ∨ (0 < s0.fuse ∧ (countS s).2 = 81) := by
  by_cases hf : 0 < s.fuse
  · have hs : 0 < s0.fuse := by
      rcases Int.lt_or_le 0 s0.fuse with e | e
      · exact e
      · have := g.arm (by omega); omega
    unfold countS
    rw [if_pos hf]
    split
    · exact .inr ⟨hs, rfl⟩
    · exact .inl ⟨rfl, g.on, fun e => by omega⟩
  · unfold countS
    rw [if_neg hf]
    exact .inl ⟨rfl, g.on, g.arm⟩
/-- A file of this call's own under the name t, so much of it written. -/
structure Wip (s s' : St) (t : Nm) (f : Nat) (R : List Int) (sy : Nat) : Prop where
  ok : Ok s'
  room : s'.room = s.room
  last : s'.last = s.last
  pend : s'.pend = s.pend ++ [(f, t)]
  now : s'.now = moveD s.now f t
  held : s'.held = s.held ++ [f]
  dat : s'.dat = setF s.dat f R
  syn : s'.syn = setF s.syn f sy
theorem Wip.get {s s' : St} {t : Nm} {f : Nat} {R : List Int} {sy : Nat} (w : Wip s s' t f R sy) (ht : isNm t = true) : s'.now t = some f := by rw [w.now]; exact move_same (isNm_ne ht)
theorem Wip.sum {s s' : St} {t : Nm} {f : Nat} {R : List Int} {sy : Nat} (w : Wip s s' t f R sy) (hf : f ∉ s.held) : heldS s' = heldS s + R.length := by
  unfold heldS
  rw [w.held, w.dat]
  simp only [List.map_append, List.sum_append, List.map_cons, List.map_nil, List.sum_cons, List.sum_nil, setF_same]
  have : (s.held.map fun g => ((setF s.dat f R g).length : Int)) = s.held.map fun g => ((s.dat g).length : Int) := by
    apply List.map_congr_left
    intro g hg
    rw [setF_ne _ _ _ (by rintro rfl; exact hf hg)]
  rw [this]; simp
theorem Goes.begin {s0 s : St} (g : Goes s0 s) {n : Nm} (hn : isNm n = true) : beginS s [n] = 0 := begin_calm g.on hn
theorem Goes.find {s0 s : St} (g : Goes s0 s) {n : Nm} (hn : isNm n = true) {x : Nat} (hx : s.now n = some x) : findS s n = (some x, 0) := by
  unfold findS
  rw [g.begin hn]
  simp [hx]
theorem create_wip {s : St} (ok : Ok s) (on : s.off = false) {t : Nm} {f : Nat} (ht : isNm t = true) (hx : s.now t = none) (hf : f ∉ s.held) :
    Wip s (createS s t f).1 t f [] 0 ∧ (((createS s t f).2 = 0 ∧ Goes s (createS s t f).1) ∨ (0 < s.fuse ∧ (createS s t f).2 = 81)) := by
  have hc : createS s t f = countS { addS s f with now := moveD s.now f t, pend := s.pend ++ [(f, t)] } := by
    unfold createS
    rw [begin_calm on ht, hx]
    simp only [ne_eq, not_true, if_false]
    rfl
  have hok := create_ok ok t hf
  rw [hc] at hok ⊢
  obtain ⟨c1, c2, c3, c4, c5, c6, c7, c8⟩ := count_same { addS s f with now := moveD s.now f t, pend := s.pend ++ [(f, t)] }
  exact ⟨⟨hok, c1, c3, c4, c2, c5, c6, c7⟩, count_cases (s0 := s) ⟨on, fun e => e⟩ ok.fuse.1 ok.fuse.1⟩
theorem append_wip {s s' : St} {t : Nm} {f : Nat} {R : List Int} {sy : Nat} (ok : Ok s) (w : Wip s s' t f R sy) (g : Goes s s') (ht : isNm t = true) (hf : f ∉ s.held) {b : List Int} (hb : Byt b) (hr : heldS s + R.length + b.length ≤ s.room) :
    Wip s (appendS s' t b).1 t f (R ++ b) sy ∧ (((appendS s' t b).2 = 0 ∧ Goes s (appendS s' t b).1) ∨ (0 < s.fuse ∧ (appendS s' t b).2 = 81)) := by
  have hsum := w.sum hf
  have hrm := w.room
  have hdf : s'.dat f = R := by rw [w.dat]; exact setF_same _ _ _
  have ha : appendS s' t b = countS { s' with dat := setF s'.dat f (R ++ b) } := by
    unfold appendS
    rw [g.find ht (w.get ht)]
    simp only
    rw [if_neg (by omega), hdf]
  have hok := append_ok w.ok t hb
  rw [ha] at hok ⊢
  obtain ⟨c1, c2, c3, c4, c5, c6, c7, c8⟩ := count_same { s' with dat := setF s'.dat f (R ++ b) }
  refine ⟨⟨hok, c1.trans w.room, c3.trans w.last, c4.trans w.pend, c2.trans w.now, c5.trans w.held, ?_, c7.trans w.syn⟩, count_cases (s0 := s) ⟨g.on, g.arm⟩ ok.fuse.1 w.ok.fuse.1⟩
  rw [c6]
  simp only
  rw [w.dat, setF_setF]
theorem sync_wip {s s' : St} {t : Nm} {f : Nat} {R : List Int} {sy : Nat} (ok : Ok s) (w : Wip s s' t f R sy) (g : Goes s s') (ht : isNm t = true) :
    ((syncS s' t).2 = 0 ∧ Goes s (syncS s' t).1 ∧ Wip s (syncS s' t).1 t f R R.length) ∨ (0 < s.fuse ∧ (syncS s' t).2 = 81 ∧ Wip s (syncS s' t).1 t f R sy) := by
  have hdf : s'.dat f = R := by rw [w.dat]; exact setF_same _ _ _
  obtain ⟨c1, c2, c3, c4, c5, c6, c7, c8⟩ := count_same s'
  have hs : syncS s' t = if (countS s').2 = 0 then ({ (countS s').1 with syn := setF s'.syn f R.length }, 0) else countS s' := by
    unfold syncS
    rw [g.find ht (w.get ht)]
    simp only
    rw [hdf]
  have hok := sync_ok w.ok t
  rw [hs] at hok ⊢
  rcases count_cases g ok.fuse.1 w.ok.fuse.1 with ⟨e, g'⟩ | ⟨hp, e⟩
  · rw [if_pos e] at hok ⊢
    refine .inl ⟨rfl, ⟨g'.on, g'.arm⟩, ⟨hok, c1.trans w.room, c3.trans w.last, c4.trans w.pend, c2.trans w.now, c5.trans w.held, c6.trans w.dat, ?_⟩⟩
    simp only
    rw [w.syn, setF_setF]
  · rw [if_neg (by rw [e]; decide)] at hok ⊢
    exact .inr ⟨hp, e, ⟨hok, c1.trans w.room, c3.trans w.last, c4.trans w.pend, c2.trans w.now, c5.trans w.held, c6.trans w.dat, c7.trans w.syn⟩⟩
/-- A frame more. -/
theorem put_wip {s s' : St} {t : Nm} {f : Nat} {R : List Int} {sy : Nat} (ok : Ok s) (w : Wip s s' t f R sy) (g : Goes s s') (ht : isNm t = true) (hf : f ∉ s.held) {x : WrS} (hx : x.name = t) {k : Int} {p : List Int} (hk : k = 1 ∨ k = 2 ∨ k = 3) (hp : p.length ≤ 1024) (hb : Byt p) (hr : heldS s + R.length + (12 + p.length) ≤ s.room) :
    Wip s (putS s' x k p).1 t f (R ++ encL k p) sy ∧ (((putS s' x k p).2.2 = 0 ∧ Goes s (putS s' x k p).1 ∧ (putS s' x k p).2.1.over = x.over) ∨ (0 < s.fuse ∧ (putS s' x k p).2.2 = 81)) ∧ (putS s' x k p).2.1.name = t ∧ (putS s' x k p).2.1.data = x.data := by
  have ha := append_wip ok w g ht hf (b := encL k p) (encL_byt hb) (by rw [encL_len]; omega)
  obtain ⟨hd, hn⟩ := putS_data s' x k p
  refine ⟨?_, ?_, hn.trans hx, hd⟩
  · unfold putS
    rw [if_neg (not_not_intro (encE_ok hk hp)), hx]
    split
    · exact ha.1
    · exact ha.1
  · unfold putS
    rw [if_neg (not_not_intro (encE_ok hk hp)), hx]
    rcases ha.2 with ⟨e, g'⟩ | ⟨hp', e⟩
    · rw [if_neg (not_not_intro e)]
      exact .inl ⟨rfl, g', rfl⟩
    · rw [if_pos (by rw [e]; decide)]
      exact .inr ⟨hp', e⟩
/-- The rename is done, the directory not yet synced. -/
structure Ren (s s' : St) (t n : Nm) (f : Nat) (R : List Int) : Prop where
  ok : Ok s'
  last : s'.last = s.last
  pend : s'.pend = s.pend ++ [(f, t), (f, n)]
  now : s'.now = moveD (moveD s.now f t) f n
  dat : s'.dat = setF s.dat f R
  syn : s'.syn = setF s.syn f R.length
  sum : heldS s' = heldS s + R.length
/-- All is done. -/
structure Fin (s s' : St) (t n : Nm) (f : Nat) (R : List Int) : Prop where
  ok : Ok s'
  goes : Goes s s'
  last : s'.last = s'.now
  pend : s'.pend = []
  now : s'.now = moveD (moveD s.now f t) f n
  dat : s'.dat = setF s.dat f R
  syn : s'.syn = setF s.syn f R.length
  room : s'.room = s.room
  sum : heldS s' ≤ heldS s + R.length
inductive Out9 (s s' : St) (t n : Nm) (f : Nat) (R : List Int) : Int → Prop
  | fin : Fin s s' t n f R → Out9 s s' t n f R 0
  | wip {R' : List Int} {sy : Nat} : 0 < s.fuse → Wip s s' t f R' sy → Out9 s s' t n f R 81
  | ren : 0 < s.fuse → Ren s s' t n f R → Out9 s s' t n f R 81
theorem fail_power (s : St) (t : Nm) (was : Bool) : failS s t was 81 = (s, 81) := by unfold failS; rw [if_neg (fun e => e.1 rfl)]
theorem pub_power {s : St} (ok : Ok s) (on : s.off = false) {n : Nm} (hn : isNm n = true) (ht : isNm (tn n) = true) (hx : s.now (tn n) = none) {f : Nat} (hf : f ∉ s.held) {hd : List Int} {l : List (List Int)} (hl : hd.length ≤ 1024) (hb : Byt hd) (h2 : ∀ p ∈ l, p.length ≤ 1024 ∧ Byt p)
    (hr : heldS s + (rowB (fileR hd l)).length ≤ s.room) : Out9 s (pubS s n hd l f).1 (tn n) n f (rowB (fileR hd l)) (pubS s n hd l f).2 := by
  have hlen : ∀ j, j ≤ l.length → (rowB (rowI hd (l.take j))).length + (if j < l.length then 12 + (l.getD j []).length else 16) ≤ (rowB (fileR hd l)).length := fun j hj => by
    have e : rowB (fileR hd l) = rowB (rowI hd (l.take j)) ++ rowB ((l.drop j).map (fun p => ((2 : Int), p)) ++ [(3, be4 l.length)]) := by
      have : fileR hd l = rowI hd (l.take j) ++ ((l.drop j).map (fun p => ((2 : Int), p)) ++ [(3, be4 l.length)]) := by
        unfold fileR rowI
        rw [List.cons_append, List.cons_append, ← List.append_assoc, ← List.map_append, List.take_append_drop]
      rw [this]; unfold rowB; rw [List.map_append, List.flatten_append]
    rw [e, List.length_append]
    split
    · rename_i hlt
      rw [List.drop_eq_getElem_cons hlt, List.map_cons, List.cons_append, rowB_cons, List.length_append, encL_len, List.getD_eq_getElem?_getD, List.getElem?_eq_getElem hlt]
      simp only [Option.getD_some]
      omega
    · rw [List.drop_of_length_le (by omega), List.map_nil, List.nil_append, rowB_cons, List.length_append, encL_len]
      have : (be4 (l.length : Int)).length = 4 := rfl
      omega
  have key : ∀ (k j : Nat) (p : Pb) (was : Bool), k + j = l.length + 4 → 1 ≤ j → j ≤ l.length + 1 → Wip s p.s (tn n) f (rowB (rowI hd (l.take (j - 1)))) 0 → Goes s p.s → p.w.name = tn n → p.w.over = false → p.w.data = ((j - 1 : Nat) : Int) →
      Out9 s (goP n hd l f was k j p).1 (tn n) n f (rowB (fileR hd l)) (goP n hd l f was k j p).2 := by
    intro k
    induction k with
    | zero => intro j p was h1 h2 h3; omega
    | succ k ih =>
      intro j p was h1 h2' h3 w g hname hover hdata
      by_cases hj : j ≤ l.length
      · have hjl : j - 1 < l.length := by omega
        have hp := h2 _ (mem_getD hjl [])
        have hle := hlen (j - 1) (by omega)
        rw [if_pos hjl] at hle
        have es : stepP n hd l f j p = (⟨(putW p.s p.w (l.getD (j - 1) [])).1, (putW p.s p.w (l.getD (j - 1) [])).2.1⟩, (putW p.s p.w (l.getD (j - 1) [])).2.2) := by
          unfold stepP; rw [if_neg (by omega), if_pos hj]
        obtain ⟨p1, p2, p3, p4⟩ := put_wip ok w g ht hf (x := p.w) hname (k := 2) (by omega) hp.1 hp.2 (by omega)
        have eR : rowB (rowI hd (l.take (j - 1))) ++ encL 2 (l.getD (j - 1) []) = rowB (rowI hd (l.take j)) := by
          rw [← rowB_snoc, ← rowI_snoc, ← take_getD hjl, show j - 1 + 1 = j by omega]
        rw [eR] at p1
        have hP : goP n hd l f was (k + 1) j p = if (putW p.s p.w (l.getD (j - 1) [])).2.2 = 0 then goP n hd l f was k (j + 1) ⟨(putW p.s p.w (l.getD (j - 1) [])).1, (putW p.s p.w (l.getD (j - 1) [])).2.1⟩ else failS (putW p.s p.w (l.getD (j - 1) [])).1 (tn n) was (putW p.s p.w (l.getD (j - 1) [])).2.2 := by
          show (if (stepP n hd l f j p).2 = 0 then _ else _) = _
          rw [es]
        rw [hP]
        rcases p2 with ⟨e, g', ov⟩ | ⟨hpw, e⟩
        · have eW : putW p.s p.w (l.getD (j - 1) []) = ((putS p.s p.w 2 (l.getD (j - 1) [])).1, { (putS p.s p.w 2 (l.getD (j - 1) [])).2.1 with data := (putS p.s p.w 2 (l.getD (j - 1) [])).2.1.data + 1 }, 0) := by
            unfold putW; rw [if_neg (by rw [hover]; decide), if_pos e]
          rw [eW]
          simp only [if_true]
          refine ih (j + 1) _ was (by omega) (by omega) (by omega) (by rw [Nat.add_sub_cancel]; exact p1) g' p3 (by simp only; rw [ov]; exact hover) (by simp only; rw [p4, hdata]; omega)
        · have eW : putW p.s p.w (l.getD (j - 1) []) = putS p.s p.w 2 (l.getD (j - 1) []) := by
            unfold putW; rw [if_neg (by rw [hover]; decide), if_neg (by rw [e]; decide)]
          rw [eW, e, if_neg (by decide), fail_power]
          exact .wip hpw p1
      · have ej : j = l.length + 1 := by omega
        subst ej
        have ek : k = 2 := by omega
        subst ek
        rw [show l.length + 1 - 1 = l.length by omega] at w hdata
        rw [List.take_length] at w
        have hle := hlen l.length (Nat.le_refl _)
        rw [if_neg (by omega), List.take_length] at hle
        have h4 : (be4 (l.length : Int)).length = 4 := rfl
        obtain ⟨p1, p2, p3, p4⟩ := put_wip ok w g ht hf (x := p.w) hname (k := 3) (p := be4 p.w.data) (by omega) (by simp [be4]) (be4_byt _) (by rw [hdata, h4]; omega)
        have eR : rowB (rowI hd l) ++ encL 3 (be4 p.w.data) = rowB (fileR hd l) := by rw [hdata, ← rowB_snoc]; rfl
        rw [eR] at p1
        have es : stepP n hd l f (l.length + 1) p = (⟨(endW p.s p.w true).1, (endW p.s p.w true).2.1⟩, (endW p.s p.w true).2.2.2.2) := by
          unfold stepP; rw [if_neg (by omega), if_neg (by omega), if_pos rfl]
        have hP : goP n hd l f was 3 (l.length + 1) p = if (endW p.s p.w true).2.2.2.2 = 0 then goP n hd l f was 2 (l.length + 2) ⟨(endW p.s p.w true).1, (endW p.s p.w true).2.1⟩ else failS (endW p.s p.w true).1 (tn n) was (endW p.s p.w true).2.2.2.2 := by
          show (if (stepP n hd l f (l.length + 1) p).2 = 0 then _ else _) = _
          rw [es]
        have hE : endW p.s p.w true = (let q := putS p.s p.w 3 (be4 p.w.data)
            let t' := if q.2.2 = 0 ∧ true = true then syncS q.1 p.w.name else (q.1, q.2.2)
            (t'.1, { q.2.1 with over := true }, if t'.2 ≠ 0 then (0, 0#32, t'.2) else (q.2.1.size, q.2.1.sum, 0))) := by
          unfold endW; rw [if_neg (by rw [hover]; decide)]
        rw [hP]
        rcases p2 with ⟨e, g', ov⟩ | ⟨hpw, e⟩
        · rw [hname] at hE
          rcases sync_wip ok p1 g' ht with ⟨y1, y2, y3⟩ | ⟨y1, y2, y3⟩
          · have eE : (endW p.s p.w true).1 = (syncS (putS p.s p.w 3 (be4 p.w.data)).1 (tn n)).1 ∧ (endW p.s p.w true).2.2.2.2 = 0 := by
              rw [hE]
              simp only [e, and_self, if_true, y1, ne_eq, not_true, if_false]
            rw [eE.2, if_pos rfl, eE.1]
            obtain ⟨S2, hS2⟩ : ∃ S2, S2 = (syncS (putS p.s p.w 3 (be4 p.w.data)).1 (tn n)).1 := ⟨_, rfl⟩
            rw [← hS2] at y2 y3 ⊢
            -- rename
            have hb2 : beginS S2 [tn n, n] = 0 := by unfold beginS; simp [ht, hn, y2.on]
            have hrn : renameS S2 (tn n) n = countS { S2 with now := moveD S2.now f n, pend := S2.pend ++ [(f, n)] } := by
              unfold renameS
              rw [hb2, y3.get ht]
              simp only [ne_eq, not_true, if_false]
              rfl
            have hrok := rename_ok y3.ok (tn n) n
            have es2 : ∀ w', stepP n hd l f (l.length + 2) ⟨S2, w'⟩ = (⟨(renameS S2 (tn n) n).1, w'⟩, (renameS S2 (tn n) n).2) := fun w' => by
              unfold stepP; rw [if_neg (by omega), if_neg (by omega), if_neg (by omega), if_pos (by omega)]
            have hP2 : ∀ w', goP n hd l f was 2 (l.length + 2) ⟨S2, w'⟩ = if (renameS S2 (tn n) n).2 = 0 then goP n hd l f was 1 (l.length + 3) ⟨(renameS S2 (tn n) n).1, w'⟩ else failS (renameS S2 (tn n) n).1 (tn n) was (renameS S2 (tn n) n).2 := fun w' => by
              show (if (stepP n hd l f (l.length + 2) ⟨S2, w'⟩).2 = 0 then _ else _) = _
              rw [es2]
            rw [hP2]
            obtain ⟨c1, c2, c3, c4, c5, c6, c7, c8⟩ := count_same { S2 with now := moveD S2.now f n, pend := S2.pend ++ [(f, n)] }
            rw [← hrn] at c1 c2 c3 c4 c5 c6 c7 c8
            have sum2 := y3.sum hf
            have hren : Ren s (renameS S2 (tn n) n).1 (tn n) n f (rowB (fileR hd l)) := by
              refine ⟨hrok, c3.trans y3.last, ?_, ?_, c6.trans y3.dat, c7.trans y3.syn, ?_⟩
              · rw [c4]; simp only; rw [y3.pend, List.append_assoc]; rfl
              · rw [c2]; simp only; rw [y3.now]
              · rw [← sum2]; unfold heldS; rw [c5, c6]
            rcases count_cases (s0 := s) (s := { S2 with now := moveD S2.now f n, pend := S2.pend ++ [(f, n)] }) ⟨y2.on, y2.arm⟩ ok.fuse.1 y3.ok.fuse.1 with ⟨z1, z2⟩ | ⟨z1, z2⟩
            · rw [← hrn] at z1 z2
              rw [if_pos z1]
              obtain ⟨S3, hS3⟩ : ∃ S3, S3 = (renameS S2 (tn n) n).1 := ⟨_, rfl⟩
              rw [← hS3] at hren z2 ⊢
              have hrm3 : S3.room = s.room := by rw [hS3, c1]; exact y3.room
              have es3 : ∀ w', stepP n hd l f (l.length + 3) ⟨S3, w'⟩ = (⟨(syncDirS S3).1, w'⟩, (syncDirS S3).2) := fun w' => by
                unfold stepP; rw [if_neg (by omega), if_neg (by omega), if_neg (by omega), if_neg (by omega)]
              have hP3 : ∀ w', goP n hd l f was 1 (l.length + 3) ⟨S3, w'⟩ = if (syncDirS S3).2 = 0 then ((syncDirS S3).1, 0) else failS (syncDirS S3).1 (tn n) was (syncDirS S3).2 := fun w' => by
                show (if (stepP n hd l f (l.length + 3) ⟨S3, w'⟩).2 = 0 then _ else _) = _
                rw [es3]
                rfl
              rw [hP3]
              have hsok := syncDir_ok hren.ok
              obtain ⟨d1, d2, d3, d4, d5, d6, d7, d8⟩ := count_same S3
              have hsd : syncDirS S3 = if (countS S3).2 = 0 then (settleS (countS S3).1, 0) else countS S3 := by
                unfold syncDirS
                rw [if_neg (by rw [z2.on]; decide)]
              rw [hsd] at hsok ⊢
              rcases count_cases z2 ok.fuse.1 hren.ok.fuse.1 with ⟨v1, v2⟩ | ⟨v1, v2⟩
              · rw [if_pos v1] at hsok ⊢
                rw [if_pos rfl]
                refine .fin ⟨hsok, ⟨v2.on, v2.arm⟩, rfl, rfl, d2.trans hren.now, d6.trans hren.dat, d7.trans hren.syn, ?_, ?_⟩
                · show (countS S3).1.room = s.room
                  rw [d1]; exact hrm3
                · have q := sum_filter_le (countS S3).1.held (fun g => (((countS S3).1.dat g).length : Int)) (fun x => by omega) (fun g => @decide (∃ m, (countS S3).1.now m = some g) (Classical.propDecidable _))
                  rw [← hren.sum]
                  have e1 : heldS S3 = (((countS S3).1.held.map fun g => (((countS S3).1.dat g).length : Int))).sum := by unfold heldS; rw [d5, d6]
                  rw [e1]
                  unfold heldS settleS
                  simp only
                  exact q
              · have hx9 : ¬ (countS S3).2 = 0 := by rw [v2]; decide
                rw [if_neg hx9] at hsok ⊢
                rw [if_neg hx9, v2, fail_power]
                refine .ren v1 ⟨hsok, d3.trans hren.last, d4.trans hren.pend, d2.trans hren.now, d6.trans hren.dat, d7.trans hren.syn, ?_⟩
                rw [← hren.sum]; unfold heldS; rw [d5, d6]
            · rw [← hrn] at z2
              rw [z2, if_neg (by decide), fail_power]
              exact .ren z1 hren
          · have eE : (endW p.s p.w true).1 = (syncS (putS p.s p.w 3 (be4 p.w.data)).1 (tn n)).1 ∧ (endW p.s p.w true).2.2.2.2 = 81 := by
              rw [hE]
              simp only [e, and_self, if_true, y2]
              exact ⟨trivial, by rw [if_pos (by decide)]⟩
            rw [eE.2, if_neg (by decide), eE.1, fail_power]
            exact .wip y1 y3
        · have eE : (endW p.s p.w true).1 = (putS p.s p.w 3 (be4 p.w.data)).1 ∧ (endW p.s p.w true).2.2.2.2 = 81 := by
            rw [hE]
            simp only [e]
            rw [if_neg (by decide)]
            exact ⟨rfl, by rw [if_pos (show (81 : Int) ≠ 0 by decide)]⟩
          rw [eE.2, if_neg (by decide), eE.1, fail_power]
          exact .wip hpw p1
  have es : stepP n hd l f 0 ⟨s, newW (tn n)⟩ = (⟨(beginW s (tn n) f hd).1, (beginW s (tn n) f hd).2.1⟩, (beginW s (tn n) f hd).2.2) := by unfold stepP; rw [if_pos rfl]
  have eg : pubS s n hd l f = if (beginW s (tn n) f hd).2.2 = 0 then goP n hd l f (thereS s (tn n)) (l.length + 3) 1 ⟨(beginW s (tn n) f hd).1, (beginW s (tn n) f hd).2.1⟩ else failS (beginW s (tn n) f hd).1 (tn n) (thereS s (tn n)) (beginW s (tn n) f hd).2.2 := by
    unfold pubS
    show (if (stepP n hd l f 0 ⟨s, newW (tn n)⟩).2 = 0 then _ else _) = _
    rw [es]
  rw [eg]
  obtain ⟨cw, cc⟩ := create_wip ok on ht hx hf
  have hle := hlen 0 (by omega)
  have r0 : rowB (rowI hd (l.take 0)) = encL 1 hd := by unfold rowI; rw [List.take_zero, List.map_nil, rowB_cons]; simp [rowB]
  rw [r0, encL_len] at hle
  rcases cc with ⟨ce, cg⟩ | ⟨cp, ce⟩
  · obtain ⟨p1, p2, p3, p4⟩ := put_wip ok cw cg ht hf (x := newW (tn n)) rfl (k := 1) (p := hd) (by omega) hl hb (by simp only [List.length_nil]; split at hle <;> omega)
    rw [List.nil_append] at p1
    have eB : beginW s (tn n) f hd = putS (createS s (tn n) f).1 (newW (tn n)) 1 hd := by unfold beginW; rw [if_neg (by omega), if_neg (not_not_intro ce)]
    rw [eB]
    rcases p2 with ⟨e, g', ov⟩ | ⟨hpw, e⟩
    · rw [if_pos e]
      exact key (l.length + 3) 1 _ _ (by omega) (by omega) (by omega) (by rw [show 1 - 1 = 0 from rfl, r0]; exact p1) g' p3 ov (by rw [p4]; rfl)
    · rw [e, if_neg (by decide), fail_power]
      exact .wip hpw p1
  · have eB : beginW s (tn n) f hd = ((createS s (tn n) f).1, newW (tn n), 81) := by unfold beginW; rw [if_neg (by omega), if_pos (by rw [ce]; decide), ce]
    rw [eB]
    simp only
    rw [if_neg (by decide), fail_power]
    exact .wip cp cw
end Go.Proofs.YtgigigchjnnonaaGreatDoor
