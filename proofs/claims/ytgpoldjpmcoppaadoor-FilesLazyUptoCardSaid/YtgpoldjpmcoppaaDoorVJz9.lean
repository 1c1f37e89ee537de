/- What holds while payloads are gathered in a range over All. -/
import Derived.Test.YtgpoldjpmcoppaaDoorVLst9
import Derived.Test.YtgpoldjpmcoppaaDoorVTwo9
set_option linter.unusedSimpArgs false
set_option linter.unusedVariables false
set_option maxRecDepth 20000
namespace Go.Proofs.YtgpoldjpmcoppaaDoor
open Go Go.V
-- 5: uint8
-- 22: []uint8
-- 23: [][]uint8
structure JZ (Hr : Heap) (F0 : Nat → Prop) (b c l1 : Nat) (l' : List (List Int)) (S : St) (k : Nat) (F N : Nat → Prop) (v : Value) (o : Obj) (Hh : Heap) : Prop where
  old : ∀ g, g < Hr.size → g ≠ c → g ≠ l1 → ¬ F0 g → Hh[g]? = Hr[g]?
  size : Hr.size ≤ Hh.size
  fs : FsH Hh F b S
  fo : ∀ g, F g → F0 g ∨ Hr.size ≤ g
  cell : Hh[c]? = some (.cells #[v] 23)
  lp : Hh[l1]? = some o
  lst : LstN Hh (fun g => Hr.size ≤ g ∧ ¬ F g ∧ N g) v (l'.take k)
  nb : ∀ g, g < Hr.size → N g
  nf : ∀ g, F g → N g
  nl : ∀ g, N g → g < Hh.size
  cr : c < Hr.size
  lr : l1 < Hr.size
  cl : c ≠ l1
  c0 : ¬ F0 c
  l0 : ¬ F0 l1
section
variable {Hr Hh H' : Heap} {F0 F F' N : Nat → Prop} {b c l1 k : Nat} {l' : List (List Int)} {S S' : St} {v u : Value} {o o' : Obj}
theorem JZ.cF (h : JZ Hr F0 b c l1 l' S k F N v o Hh) : ¬ F c ∧ ¬ F l1 := by
  refine ⟨fun e => ?_, fun e => ?_⟩
  · rcases h.fo _ e with e | e
    · exact h.c0 e
    · have := h.cr; omega
  · rcases h.fo _ e with e | e
    · exact h.l0 e
    · have := h.lr; omega
theorem JZ.stab (h : JZ Hr F0 b c l1 l' S k F N v o Hh) (hs : Hh.size ≤ H'.size) (hk : ∀ g, N g → H'[g]? = Hh[g]?) : JZ Hr F0 b c l1 l' S k F N v o H' := by
  obtain ⟨_, _, _, _, _, hp⟩ := h.fs
  exact ⟨fun g h1 h2 h3 h4 => (hk g (h.nb g h1)).trans (h.old g h1 h2 h3 h4), Nat.le_trans h.size hs, ⟨_, _, _, _, _, hp.keep hs fun g hg => hk g (h.nf g hg)⟩, h.fo, (hk _ (h.nb _ h.cr)).trans h.cell, (hk _ (h.nb _ h.lr)).trans h.lp,
    h.lst.keep (fun g hg => hk g hg.2.2) (fun _ hg => hg), h.nb, h.nf, fun g hg => Nat.lt_of_lt_of_le (h.nl g hg) hs, h.cr, h.lr, h.cl, h.c0, h.l0⟩
theorem JZ.crc (h : JZ Hr F0 b c l1 l' S k F N v o Hh) (ht : CrcTab Hr) (h0 : ¬ F0 0) (hc : c ≠ 0) (hl : l1 ≠ 0) : CrcTab Hh := by
  obtain ⟨t, fr, ht⟩ := ht
  exact ⟨t, fr, by rw [h.old 0 (Array.getElem?_eq_some_iff.1 ht).1 hc.symm hl.symm h0]; exact ht⟩
/-- The loop's record alone is turned. -/
theorem JZ.set (h : JZ Hr F0 b c l1 l' S k F N v o Hh) (o' : Obj) : JZ Hr F0 b c l1 l' S k F N v o' (hset Hh l1 o') ∧ (hset Hh l1 o').size = Hh.size ∧ ∀ g, g ≠ l1 → (hset Hh l1 o')[g]? = Hh[g]? := by
  have hx : ∀ g, g ≠ l1 → (hset Hh l1 o')[g]? = Hh[g]? := fun g hg => hset_other hg
  obtain ⟨f1, f2⟩ := h.cF
  obtain ⟨_, _, _, _, _, hp⟩ := h.fs
  refine ⟨⟨fun g h1 h2 h3 h4 => (hx g h3).trans (h.old g h1 h2 h3 h4), by rw [hset_size]; exact h.size, ⟨_, _, _, _, _, hp.keep (by rw [hset_size]; exact Nat.le_refl _) fun g hg => hx g (by rintro rfl; exact f2 hg)⟩, h.fo, (hx _ h.cl).trans h.cell, hset_same h.lp,
    h.lst.keep (fun g hg => hx g (by have := h.lr; omega)) (fun _ hg => hg), h.nb, h.nf, fun g hg => by rw [hset_size]; exact h.nl g hg, h.cr, h.lr, h.cl, h.c0, h.l0⟩, hset_size _ _ _, hx⟩
/-- The file system alone is turned. -/
theorem JZ.fsstep (h : JZ Hr F0 b c l1 l' S k F N v o Hh) (f : FsH H' F' b S') (ch : Ch F F' Hh H') : JZ Hr F0 b c l1 l' S' k F' (fun g => N g ∨ (Hh.size ≤ g ∧ g < H'.size)) v o H' := by
  obtain ⟨f1, f2⟩ := h.cF
  have hcl := (Array.getElem?_eq_some_iff.1 h.cell).1
  have hll := (Array.getElem?_eq_some_iff.1 h.lp).1
  have hsz := h.size
  refine ⟨fun g h1 h2 h3 h4 => (ch.get g (by omega) fun e => ?_).trans (h.old g h1 h2 h3 h4), Nat.le_trans h.size ch.size, f, fun g hg => ?_, (ch.get _ hcl f1).trans h.cell, (ch.get _ hll f2).trans h.lp,
    h.lst.keep (fun g hg => ch.get g (h.nl g hg.2.2) hg.2.1) (fun g hg => ⟨hg.1, fun e => ?_, .inl hg.2.2⟩), fun g hg => .inl (h.nb g hg), fun g hg => ?_, fun g hg => ?_, h.cr, h.lr, h.cl, h.c0, h.l0⟩
  · rcases h.fo g e with e | e
    · exact h4 e
    · omega
  · rcases ch.old g hg with e | e
    · exact h.fo g e
    · exact .inr (Nat.le_trans h.size e)
  · rcases ch.old g e with e | e
    · exact hg.2.1 e
    · have := h.nl g hg.2.2; omega
  · rcases ch.old g hg with e | e
    · exact .inl (h.nf g e)
    · exact .inr ⟨e, FsH.lt f hg⟩
  · rcases hg with hg | hg
    · exact Nat.lt_of_lt_of_le (h.nl g hg) ch.size
    · exact hg.2
theorem JZ.app (h : JZ Hr F0 b c l1 l' S k F N v o Hh) (hk : k < l'.length) (hu : V.Own Hh 0 5 1 u ((l'.getD k []).map (.int .u8))) (hun : ∀ g, blk u = some g → ¬ N g) (hl : l'.length ≤ 1000000) :
    RunS Tryd.prog (sAppend #[23, 23] #[v, .slice (some ⟨Hh.size, 0, none⟩) 1 1]) (Hh.push (.cells #[u] 22)) (fun v' H' => hcan H' c 0 1 ∧ JZ Hr F0 b c l1 l' S (k + 1) F (fun g => N g ∨ blk u = some g ∨ (Hh.size ≤ g ∧ g < H'.size)) v' o (hput H' c 0 [v']) ∧ Hh.size ≤ (hput H' c 0 [v']).size ∧ (∀ g, g < Hh.size → ¬ N g → (hput H' c 0 [v'])[g]? = Hh[g]?)) := by
  obtain ⟨f1, f2⟩ := h.cF
  refine (h.lst.add hu (by rw [List.length_take]; omega)).mono ?_
  rintro v' H' ⟨ls, hsz, hx, ou⟩
  have hcl := (Array.getElem?_eq_some_iff.1 h.cell).1
  have hll := (Array.getElem?_eq_some_iff.1 h.lp).1
  have hrs := h.size
  have hvb : ∀ g, blk v = some g → Hr.size ≤ g ∧ ¬ F g ∧ N g := by obtain ⟨_, _, _, q⟩ := h.lst; exact q
  have hcr := h.cr
  have hlr := h.lr
  have e1 : H'[c]? = some (.cells #[v] 23) := (hx c hcl fun e => by have := (hvb c e).1; omega).trans h.cell
  have hy : ∀ g, g ≠ c → (hput H' c 0 [v'])[g]? = H'[g]? := fun g hg => hput_other _ _ _ _ hg
  have hF : ∀ g, F g → g < Hh.size := fun g hg => FsH.lt h.fs hg
  obtain ⟨_, _, _, _, _, hp⟩ := h.fs
  refine ⟨hcan_of e1 (by simp), ⟨fun g h1 h2 h3 h4 => ?_, by rw [hput_size]; omega, ⟨_, _, _, _, _, hp.keep (by rw [hput_size]; exact hsz) fun g hg => ?_⟩, h.fo, by rw [hput_same e1]; rfl, ?_, ?_, fun g hg => .inl (h.nb g hg), fun g hg => .inl (h.nf g hg), fun g hg => ?_, h.cr, h.lr, h.cl, h.c0, h.l0⟩, by rw [hput_size]; exact hsz, fun g h1 h2 => ?_⟩
  · rw [hy g h2, hx g (by omega) fun e => by have := (hvb g e).1; omega]
    exact h.old g h1 h2 h3 h4
  · rw [hy g (by rintro rfl; exact f1 hg), hx g (hF g hg) fun e => (hvb g e).2.1 hg]
  · rw [hy _ (Ne.symm h.cl), hx _ hll fun e => by have := (hvb _ e).1; omega]
    exact h.lp
  · rw [take_getD hk]
    refine LstN.keep ls (fun g hg => hy g ?_) (fun g hg => ?_)
    · rcases hg with hg | hg | hg
      · omega
      · rintro rfl; exact hun _ hg (h.nb _ hcr)
      · omega
    · rcases hg with hg | hg | hg
      · exact ⟨hg.1, hg.2.1, .inl hg.2.2⟩
      · have hn := hun g hg
        exact ⟨Nat.le_of_not_lt fun e => hn (h.nb g e), fun e => hn (h.nf g e), .inr (.inl hg)⟩
      · exact ⟨by omega, fun e => by have := hF g e; omega, .inr (.inr hg)⟩
  · rw [hput_size]
    rcases hg with hg | hg | hg
    · exact Nat.lt_of_lt_of_le (h.nl g hg) hsz
    · exact Nat.lt_of_lt_of_le (hu.blk hg).2.1 hsz
    · exact hg.2
  · rw [hy g (by rintro rfl; exact h2 (h.nb _ hcr)), hx g h1 fun e => h2 (hvb g e).2.2]
end
theorem open_rdK {s : St} (h : Peace s) {n : Nm} {y : Nat} (hx : s.now n = some y) {hd : List Int} {l : List (List Int)} (hf : s.dat y = rowB (fileR hd l)) (hl : hd.length ≤ 1024) : openF s n = (rdK n hd l 0, hd, 0) := by
  have e1 : s.dat y = encL 1 hd ++ rowB (l.map (fun p => ((2 : Int), p)) ++ [(3, be4 ((l.length : Nat) : Int))]) := by
    rw [hf, fileR]; simp [rowB]
  rw [open_file h hx e1 hl]
  unfold rdK newR rowI
  simp only [List.take_zero, List.map_nil, rowB_cons, List.length_append, encL_len]
  simp [rowB]
end Go.Proofs.YtgpoldjpmcoppaaDoor
