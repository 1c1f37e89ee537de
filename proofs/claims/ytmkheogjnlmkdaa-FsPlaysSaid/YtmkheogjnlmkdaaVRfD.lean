/- The reference: what a call writes; does. -/
import Derived.Test.YtmkheogjnlmkdaaVRfC
set_option linter.unusedSimpArgs false
set_option linter.unusedVariables false
set_option maxRecDepth 20000
namespace Go.Proofs.Ytmkheogjnlmkdaa
open Go Go.V
-- 87: (*pith/pithref8.FS).now
-- 94: (*pith/pithref8.FS).power
-- 93: (*pith/pithref8.FS).does
-- 101: pith/pithref8.told
-- 100: pithref8.FS
-- 5: uint8
-- 125: pithref8.Entry
-- 122: []pithref8.Entry
-- 96: [][]pithref8.Entry
-- 129: pithref8.Data
-- 97: []pithref8.Data
-- 139: pithref8.Done
-- 98: []pithref8.Done
section
variable {H H' : Heap} {F F' : Nat → Prop} {b : Nat} {fv dv pv fv' dv' pv' : Value} {P P' : List (Value × Dt)} {Q Q' : List (Value × List En)} {r r0 r' : RSt}
theorem RFsP.field {fv0 dv0 pv0 : Value} (hM : H[b]? = some (.cells (rC r0 fv0 dv0 pv0) 100)) (eP : P.map (·.2) = r.files) (eQ : Q.map (·.2) = r.dirs) (hF : Own H 0 129 2 fv (datC P))
    (hw : ∀ p ∈ P, Own H 0 5 1 p.1 (p.2.1.map (.int .u8)) ∧ ∀ g, blk p.1 = some g → F g) (ap : (P.map (·.1)).Pairwise Apart) (hD : Own H 0 122 1 dv (Q.map (·.1)))
    (hv : ∀ q ∈ Q, Own H 0 125 2 q.1 (entC q.2) ∧ ∀ g, blk q.1 = some g → F g) (hP : Own H 0 139 2 pv (doneC r.pend)) (fb : F b) (ff : ∀ g, blk fv = some g → F g) (fd : ∀ g, blk dv = some g → F g) (fp : ∀ g, blk pv = some g → F g) (lt : ∀ g, F g → g < H.size)
    (i : Nat) (v : Value) (hi : i < 7) (he : (rC r0 fv0 dv0 pv0).setIfInBounds i v = rC r fv dv pv) : hcan H b i 1 ∧ RFsP (hput H b i [v]) F b fv dv pv P Q r := by
  have hk : ∀ g, g ≠ b → (hput H b i [v])[g]? = H[g]? := fun g hg => hput_other _ _ _ _ hg
  have ko : ∀ {v' : Value} {e : TypeId} {sz : Nat} {xs : List Value}, Own H 0 e sz v' xs → e ≠ 100 → ∀ g, blk v' = some g → (hput H b i [v])[g]? = H[g]? := fun ho he g hg => by
    obtain ⟨_, _, c, hc⟩ := ho.blk hg
    exact hk g (tag_ne hc hM he)
  refine ⟨hcan_of hM (by show i + 1 ≤ 7; omega), eP, eQ, ?_, hF.keep (ko hF (by decide)), fun p hp => ⟨(hw p hp).1.keep (ko (hw p hp).1 (by decide)), (hw p hp).2⟩, ap,
    hD.keep (ko hD (by decide)), fun p hp => ⟨(hv p hp).1.keep (ko (hv p hp).1 (by decide)), (hv p hp).2⟩, hP.keep (ko hP (by decide)), fb, ff, fd, fp, fun g hg => by rw [hput_size]; exact lt g hg⟩
  rw [hput_same hM, ← he]
  congr 2
  apply Array.ext_getElem?
  intro j
  rw [Array.getElem?_setIfInBounds]
  have h8 : (rC r0 fv0 dv0 pv0).size = 7 := rfl
  by_cases hij : i = j
  · subst hij
    have := cput_get_in (c := rC r0 fv0 dv0 pv0) (o := i) (vs := [v]) (j := 0) (by simp; omega) (by simp)
    rw [Nat.add_zero] at this
    rw [this]; simp [h8, hi]
  · rw [cput_get_out (by simp; omega) (by simp; omega), if_neg hij]
/-- What grew out of v lies in F or is new. -/
theorem grown_in {v v' : Value} (hv : ∀ g, blk v = some g → F g) (ha : blk v' = blk v ∨ ∃ k, blk v' = some k ∧ H.size ≤ k) (hl : ∀ g, blk v' = some g → g < H'.size) : ∀ g, blk v' = some g → Gr F H H' g := fun g hg => by
  rcases ha with e | ⟨k, e, hk⟩
  · exact .inl (hv g (by rw [← e]; exact hg))
  · rw [e] at hg; cases hg
    exact .inr ⟨hk, hl _ e⟩
theorem RFsP.lt' (h : RFsP H F b fv dv pv P Q r) (hs : H.size ≤ H'.size) : ∀ g, Gr F H H' g → g < H'.size := fun g hg => by
  rcases hg with hg | hg
  · exact Nat.lt_of_lt_of_le (h.lt g hg) hs
  · exact hg.2
theorem but_tag {v : Value} {e e' : TypeId} {sz : Nat} {xs : List Value} {g : Nat} {c : Array Value} {fr : Nat × Nat} (hb : But (blk v) H H') (ho : Own H 0 e sz v xs) (hg : H[g]? = some (.cells c e' fr)) (hne : e' ≠ e) : H'[g]? = some (.cells c e' fr) := by
  rw [hb.get g (Array.getElem?_eq_some_iff.1 hg).1 fun e2 => ?_]; exact hg
  obtain ⟨_, _, c', hc⟩ := ho.blk e2.symm
  rw [hg] at hc; cases hc
  exact hne rfl
theorem but_ch {v : Value} {i : Nat} {u : Value} (hb : But (blk v) H H') (hF : ∀ g, blk v = some g → F g) (fb : F b) : Ch F (Gr F H H') H (hput H' b i [u]) := by
  refine ⟨by rw [hput_size]; exact hb.size, fun g hg => hg.imp_right fun h => h.1, fun g hg hn => ?_⟩
  rw [hput_other _ _ _ _ (fun e => hn (by rw [e]; exact fb))]
  exact hb.get g hg fun e => hn (hF g e.symm)
/-- The operations that pend, grown. -/
theorem RFsP.setP (h : RFsP H F b fv dv pv P Q r) {pe : List (Nat × Nm)} (hb : But (blk pv) H H') (o : Own H' 0 139 2 pv' (doneC pe)) (ha : blk pv' = blk pv ∨ ∃ k, blk pv' = some k ∧ H.size ≤ k) :
    hcan H' b 3 1 ∧ ∃ F', RFsP (hput H' b 3 [pv']) F' b fv dv pv' P Q { r with pend := pe } ∧ Ch F F' H (hput H' b 3 [pv']) := by
  have hg : ∀ g, F g → Gr F H H' g := fun g hg => .inl hg
  obtain ⟨h1, h2⟩ := RFsP.field (r := { r with pend := pe }) (F := Gr F H H') (but_tag hb h.hP h.hM (by decide)) h.eP h.eQ (h.hF.byTag h.hP hb (by decide)) (fun p hp => ⟨(h.hw p hp).1.byTag h.hP hb (by decide), fun g k => hg g ((h.hw p hp).2 g k)⟩) h.ap
    (h.hD.byTag h.hP hb (by decide)) (fun p hp => ⟨(h.hv p hp).1.byTag h.hP hb (by decide), fun g k => hg g ((h.hv p hp).2 g k)⟩) o (hg _ h.fb) (fun g k => hg g (h.ff g k)) (fun g k => hg g (h.fd g k)) (grown_in h.fp ha fun g k => (o.blk k).2.1) (h.lt' hb.size) 3 pv' (by omega) rfl
  exact ⟨h1, _, h2, but_ch hb h.fp h.fb⟩
/-- A directory more. -/
theorem RFsP.setD (h : RFsP H F b fv dv pv P Q r) {u : Value} {es : List En} (hb : But (blk dv) H H') (o : Own H' 0 122 1 dv' (Q.map (·.1) ++ [u])) (ha : blk dv' = blk dv ∨ ∃ k, blk dv' = some k ∧ H.size ≤ k)
    (hu : Own H 0 125 2 u (entC es)) (hF : ∀ g, blk u = some g → F g) :
    hcan H' b 2 1 ∧ ∃ F', RFsP (hput H' b 2 [dv']) F' b fv dv' pv P (Q ++ [(u, es)]) { r with dirs := r.dirs ++ [es] } ∧ Ch F F' H (hput H' b 2 [dv']) := by
  have hg : ∀ g, F g → Gr F H H' g := fun g hg => .inl hg
  have hv : ∀ p ∈ Q ++ [(u, es)], Own H' 0 125 2 p.1 (entC p.2) ∧ ∀ g, blk p.1 = some g → Gr F H H' g := fun p hp => by
    rcases List.mem_append.1 hp with hp | hp
    · exact ⟨(h.hv p hp).1.byTag h.hD hb (by decide), fun g k => hg g ((h.hv p hp).2 g k)⟩
    · simp only [List.mem_singleton] at hp
      subst hp
      exact ⟨hu.byTag h.hD hb (by decide), fun g k => hg g (hF g k)⟩
  obtain ⟨h1, h2⟩ := RFsP.field (r := { r with dirs := r.dirs ++ [es] }) (F := Gr F H H') (Q := Q ++ [(u, es)]) (but_tag hb h.hD h.hM (by decide)) h.eP (by rw [List.map_append, h.eQ]; rfl) (h.hF.byTag h.hD hb (by decide)) (fun p hp => ⟨(h.hw p hp).1.byTag h.hD hb (by decide), fun g k => hg g ((h.hw p hp).2 g k)⟩) h.ap
    (by rw [List.map_append]; exact o) hv (h.hP.byTag h.hD hb (by decide)) (hg _ h.fb) (fun g k => hg g (h.ff g k)) (grown_in h.fd ha fun g k => (o.blk k).2.1) (fun g k => hg g (h.fp g k)) (h.lt' hb.size) 2 dv' (by omega) rfl
  exact ⟨h1, _, h2, but_ch hb h.fd h.fb⟩
/-- A file more, without bytes. -/
theorem RFsP.setF (h : RFsP H F b fv dv pv P Q r) (hb : But (blk fv) H H') (o : Own H' 0 129 2 fv' (datC (P ++ [(.slice none 0 0, ([], 0))]))) (ha : blk fv' = blk fv ∨ ∃ k, blk fv' = some k ∧ H.size ≤ k) :
    hcan H' b 1 1 ∧ ∃ F', RFsP (hput H' b 1 [fv']) F' b fv' dv pv (P ++ [(.slice none 0 0, ([], 0))]) Q { r with files := r.files ++ [([], 0)] } ∧ Ch F F' H (hput H' b 1 [fv']) := by
  have hg : ∀ g, F g → Gr F H H' g := fun g hg => .inl hg
  have hw : ∀ p ∈ P ++ [((.slice none 0 0 : Value), (([], 0) : Dt))], Own H' 0 5 1 p.1 (p.2.1.map (.int .u8)) ∧ ∀ g, blk p.1 = some g → Gr F H H' g := fun p hp => by
    rcases List.mem_append.1 hp with hp | hp
    · exact ⟨(h.hw p hp).1.byTag h.hF hb (by decide), fun g k => hg g ((h.hw p hp).2 g k)⟩
    · simp only [List.mem_singleton] at hp
      subst hp
      exact ⟨Own.nil, fun g k => by cases k⟩
  have hap : ((P ++ [((.slice none 0 0 : Value), (([], 0) : Dt))]).map (·.1)).Pairwise Apart := by
    rw [List.map_append, List.pairwise_append]
    refine ⟨h.ap, by simp, fun u _ w hw => ?_⟩
    simp only [List.map_cons, List.map_nil, List.mem_singleton] at hw
    subst hw
    cases hu : blk u with
    | none => exact .inl hu
    | some g => exact .inr (by rw [hu]; simp [blk])
  obtain ⟨h1, h2⟩ := RFsP.field (r := { r with files := r.files ++ [([], 0)] }) (F := Gr F H H') (but_tag hb h.hF h.hM (by decide)) (by rw [List.map_append, h.eP]; rfl) h.eQ o hw hap
    (h.hD.byTag h.hF hb (by decide)) (fun p hp => ⟨(h.hv p hp).1.byTag h.hF hb (by decide), fun g k => hg g ((h.hv p hp).2 g k)⟩) (h.hP.byTag h.hF hb (by decide)) (hg _ h.fb) (grown_in h.ff ha fun g k => (o.blk k).2.1) (fun g k => hg g (h.fd g k)) (fun g k => hg g (h.fp g k)) (h.lt' hb.size) 1 fv' (by omega) rfl
  exact ⟨h1, _, h2, but_ch hb h.ff h.fb⟩
end
end Go.Proofs.Ytmkheogjnlmkdaa
