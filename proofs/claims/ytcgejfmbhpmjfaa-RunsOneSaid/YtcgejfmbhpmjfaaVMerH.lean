/- A merger in memory. -/
import Derived.Test.YtcgejfmbhpmjfaaVMerQ
import Derived.Test.YtcgejfmbhpmjfaaVScope
import Derived.Test.YtcgejfmbhpmjfaaVStore
import Derived.Test.YtcgejfmbhpmjfaaVOwn2
set_option linter.unusedSimpArgs false
set_option linter.unusedVariables false
set_option maxRecDepth 20000
namespace Go.V
open Go
@[go_sem] theorem hgets5 {H : Heap} {b o : Nat} : hgets H b o 5 = (hget H b o).bind fun v0 => (hget H b (o + 1)).bind fun v1 => (hget H b (o + 2)).bind fun v2 => (hget H b (o + 3)).bind fun v3 => (hget H b (o + 4)).bind fun v4 => some [v0, v1, v2, v3, v4] := by
  simp only [hgets, Nat.add_assoc]
  cases hget H b o <;> cases hget H b (o + 1) <;> cases hget H b (o + 2) <;> cases hget H b (o + 3) <;> cases hget H b (o + 4) <;> rfl
/-- What has changed lies in F, and F' is what lay in F or is new. -/
structure Ch (F F' : Nat → Prop) (H H' : Heap) : Prop where
  size : H.size ≤ H'.size
  old : ∀ b, F' b → F b ∨ H.size ≤ b
  get : ∀ b, b < H.size → ¬ F b → H'[b]? = H[b]?
theorem Ch.refl (F : Nat → Prop) (H : Heap) : Ch F F H H := ⟨Nat.le_refl _, fun _ h => .inl h, fun _ _ _ => rfl⟩
theorem Ch.trans {F F' F'' : Nat → Prop} {H H' H'' : Heap} (h : Ch F F' H H') (k : Ch F' F'' H' H'') : Ch F F'' H H'' := by
  refine ⟨Nat.le_trans h.size k.size, fun b hb => ?_, fun b hb hn => ?_⟩
  · rcases k.old b hb with e | e
    · exact h.old b e
    · exact .inr (Nat.le_trans h.size e)
  · rw [k.get b (Nat.lt_of_lt_of_le hb h.size) fun e => ?_, h.get b hb hn]
    rcases h.old b e with e | e
    · exact hn e
    · omega
theorem Ext.ch {F : Nat → Prop} {H H' : Heap} (h : Ext H H') : Ch F F H H' := ⟨h.size, fun _ h => .inl h, fun b hb _ => h.get b hb⟩
theorem hget_cells {H : Heap} {b o : Nat} {c : Array Value} {e : TypeId} {fr : Nat × Nat} (h : H[b]? = some (.cells c e fr)) : hget H b o = c[o]? := by
  unfold hget; rw [h]
end Go.V
namespace Go.Proofs.Ytcgejfmbhpmjfaa
open Go Go.V
-- 54: pith/runs.New$1
-- 12: pith/runs.Less
-- 3: int
-- 63: []int
-- 24: pith/api.Pair
-- 22: []api.Pair
-- 86: runs.Merger
-- 46: *runs.Merger
-- 88: runs.source
-- 81: []runs.source

def five (lv : Value) (s : Src) : List Value := [lv, .int .i64 s.last.1, .int .i64 s.last.2, .bool s.given, .bool s.ended]
def SrcC (c : Array Value) (lvs : List Value) (ss : List Src) : Prop :=
  c.size = ss.length * 5 ∧ lvs.length = ss.length ∧ ∀ i k, i < ss.length → k < 5 → c[i * 5 + k]? = (five (lvs.getD i undef) (sg ss i))[k]?
theorem lv_set {lvs : List Value} {i : Nat} (hi : i < lvs.length) (lv : Value) (j : Nat) : (lvs.set i lv).getD j undef = if j = i then lv else lvs.getD j undef := by
  rw [List.getD_eq_getElem?_getD, List.getElem?_set, List.getD_eq_getElem?_getD]
  by_cases h : i = j
  · subst h; simp [hi]
  · rw [if_neg h, if_neg (Ne.symm h)]
theorem SrcC.put {c : Array Value} {lvs : List Value} {ss : List Src} (h : SrcC c lvs ss) {i k : Nat} {xs : List Value} (hi : i < ss.length) (hk : k + xs.length ≤ 5) {lv' : Value} {s' : Src}
    (hn : five lv' s' = (five (lvs.getD i undef) (sg ss i)).take k ++ xs ++ (five (lvs.getD i undef) (sg ss i)).drop (k + xs.length)) : SrcC (cput c (i * 5 + k) xs) (lvs.set i lv') (ss.set i s') := by
  obtain ⟨h1, h2, h3⟩ := h
  have hfit : i * 5 + k + xs.length ≤ c.size := by omega
  refine ⟨by rw [cput_size hfit, List.length_set]; exact h1, by simp [h2], fun j m hj hm => ?_⟩
  rw [List.length_set] at hj
  rw [lv_set (by omega), sg_set hi]
  by_cases hji : j = i
  · subst hji
    rw [if_pos rfl, if_pos rfl, hn]
    have hf : (five (lvs.getD j undef) (sg ss j)).length = 5 := rfl
    have ht : ((five (lvs.getD j undef) (sg ss j)).take k).length = k := by rw [List.length_take, hf]; omega
    rw [List.append_assoc, List.getElem?_append, ht]
    by_cases h4 : m < k
    · rw [if_pos h4, cput_get_out hfit (.inl (by omega)), h3 j m hj hm, List.getElem?_take, if_pos h4]
    · rw [if_neg h4, List.getElem?_append]
      by_cases h5 : m - k < xs.length
      · rw [if_pos h5, ← cput_get_in hfit h5, show j * 5 + k + (m - k) = j * 5 + m by omega]
      · rw [if_neg h5, cput_get_out hfit (.inr (by omega)), h3 j m hj hm, List.getElem?_drop, show k + xs.length + (m - k - xs.length) = m by omega]
  · rw [if_neg hji, if_neg hji, cput_get_out hfit (by omega), h3 j m hj hm]
theorem SrcC.get {c : Array Value} {lvs : List Value} {ss : List Src} (h : SrcC c lvs ss) {i : Nat} (hi : i < ss.length) :
    c[i * 5]? = some (lvs.getD i undef) ∧ c[i * 5 + 1]? = some (.int .i64 (sg ss i).last.1) ∧ c[i * 5 + 2]? = some (.int .i64 (sg ss i).last.2) ∧ c[i * 5 + 3]? = some (.bool (sg ss i).given) ∧ c[i * 5 + 4]? = some (.bool (sg ss i).ended) :=
  ⟨h.2.2 i 0 hi (by omega), h.2.2 i 1 hi (by omega), h.2.2 i 2 hi (by omega), h.2.2 i 3 hi (by omega), h.2.2 i 4 hi (by omega)⟩

def hpI (hp : List Nat) : List Value := hp.map fun (i : Nat) => .int .i64 ((i : Nat) : Int)
/-- A merger: its block M, the closure's cell Cb, its sources' block S, their lists, its heap. -/
structure MerH (H : Heap) (F : Nat → Prop) (M Cb S : Nat) (lvs : List Value) (hv : Value) (ss : List Src) (hp : List Nat) : Prop where
  hM : H[M]? = some (.cells #[.slice (some ⟨S, 0, none⟩) ss.length ss.length, hv, .func (.func 54) #[] #[.pointer (some ⟨Cb, 0, none⟩)]] 86)
  hC : H[Cb]? = some (.cells #[.pointer (some ⟨M, 0, none⟩)] 46)
  hS : ∃ c, H[S]? = some (.cells c 88) ∧ SrcC c lvs ss
  hl : ∀ i, i < ss.length → Own2 H 0 24 2 (lvs.getD i undef) (cp (sg ss i).l)
  hh : Own H 0 3 1 hv (hpI hp)
  dis : ∀ i j, i < ss.length → j < ss.length → i ≠ j → blk (lvs.getD i undef) = none ∨ blk (lvs.getD i undef) ≠ blk (lvs.getD j undef)
  fM : F M
  fC : F Cb
  fS : F S
  fl : ∀ i b, i < ss.length → blk (lvs.getD i undef) = some b → F b
  fh : ∀ b, blk hv = some b → F b
  k64 : ss.length ≤ 64
section
variable {H H' H2 : Heap} {F : Nat → Prop} {M Cb S : Nat} {lvs : List Value} {hv : Value} {ss : List Src} {hp : List Nat}
theorem MerH.keep (h : MerH H F M Cb S lvs hv ss hp) (hk : ∀ b, F b → H'[b]? = H[b]?) : MerH H' F M Cb S lvs hv ss hp := by
  obtain ⟨c, hc, hc2⟩ := h.hS
  exact ⟨by rw [hk _ h.fM]; exact h.hM, by rw [hk _ h.fC]; exact h.hC, ⟨c, by rw [hk _ h.fS]; exact hc, hc2⟩, fun i hi => (h.hl i hi).keep fun g hg => hk g (h.fl i g hi hg), h.hh.keep fun g hg => hk g (h.fh g hg), h.dis, h.fM, h.fC, h.fS, h.fl, h.fh, h.k64⟩
theorem MerH.lvlen (h : MerH H F M Cb S lvs hv ss hp) : lvs.length = ss.length := by
  obtain ⟨c, _, hc⟩ := h.hS
  exact hc.2.1
/-- The blocks stand. -/
theorem MerH.lt (h : MerH H F M Cb S lvs hv ss hp) : M < H.size ∧ Cb < H.size ∧ S < H.size := by
  obtain ⟨c, hc, _⟩ := h.hS
  exact ⟨(Array.getElem?_eq_some_iff.1 h.hM).1, (Array.getElem?_eq_some_iff.1 h.hC).1, (Array.getElem?_eq_some_iff.1 hc).1⟩
theorem tag_ne {b g : Nat} {c d : Array Value} {e e' : TypeId} {fr fr' : Nat × Nat} (h : H[b]? = some (.cells c e fr)) (k : H[g]? = some (.cells d e' fr')) (hne : e ≠ e') : b ≠ g := by
  rintro rfl
  rw [h] at k
  cases k
  exact hne rfl
/-- Only what stands in blocks that are no part of it has turned. -/
theorem MerH.ext (h : MerH H F M Cb S lvs hv ss hp) (hx : Ext H H') : MerH H' F M Cb S lvs hv ss hp := by
  obtain ⟨c, hc, hc2⟩ := h.hS
  obtain ⟨l1, l2, l3⟩ := h.lt
  exact ⟨by rw [hx.get _ l1]; exact h.hM, by rw [hx.get _ l2]; exact h.hC, ⟨c, by rw [hx.get _ l3]; exact hc, hc2⟩, fun i hi => (h.hl i hi).ext hx, h.hh.ext hx, h.dis, h.fM, h.fC, h.fS, h.fl, h.fh, h.k64⟩
theorem MerH.getM (h : MerH H F M Cb S lvs hv ss hp) : hget H M 0 = some (.slice (some ⟨S, 0, none⟩) ss.length ss.length) ∧ hget H M 1 = some hv ∧ hget H M 2 = some (.func (.func 54) #[] #[.pointer (some ⟨Cb, 0, none⟩)]) ∧ hget H Cb 0 = some (.pointer (some ⟨M, 0, none⟩)) := by
  refine ⟨?_, ?_, ?_, ?_⟩
  · rw [hget_cells h.hM]; rfl
  · rw [hget_cells h.hM]; rfl
  · rw [hget_cells h.hM]; rfl
  · rw [hget_cells h.hC]; rfl
theorem MerH.getS (h : MerH H F M Cb S lvs hv ss hp) {i : Nat} (hi : i < ss.length) :
    hget H S (i * 5) = some (lvs.getD i undef) ∧ hget H S (i * 5 + 1) = some (.int .i64 (sg ss i).last.1) ∧ hget H S (i * 5 + 2) = some (.int .i64 (sg ss i).last.2) ∧ hget H S (i * 5 + 3) = some (.bool (sg ss i).given) ∧ hget H S (i * 5 + 4) = some (.bool (sg ss i).ended) := by
  obtain ⟨c, hc, hc2⟩ := h.hS
  have := hc2.get hi
  simp only [hget_cells hc]
  exact this
/-- Source i's list. -/
theorem MerH.getL (h : MerH H F M Cb S lvs hv ss hp) {i : Nat} (hi : i < ss.length) : ∃ a cap, lvs.getD i undef = .slice a (sg ss i).l.length cap := prs_form (h.hl i hi).sl
theorem MerH.getHead (h : MerH H F M Cb S lvs hv ss hp) {i : Nat} (hi : i < ss.length) (hn : (sg ss i).l ≠ []) :
    ∃ b o cap, lvs.getD i undef = .slice (some ⟨b, o, none⟩) (sg ss i).l.length cap ∧ hget H b o = some (.int .i64 (hd ss i).1) ∧ hget H b (o + 1) = some (.int .i64 (hd ss i).2) := by
  obtain ⟨a, cap, he⟩ := h.getL hi
  have hs : Prs H (lvs.getD i undef) (sg ss i).l := (h.hl i hi).sl
  rw [he] at hs
  have hpos : 0 < (sg ss i).l.length := List.length_pos_iff.2 hn
  obtain ⟨b, o, rfl⟩ := prs_at hs hpos
  have := prs_get hs hpos
  rw [Nat.zero_mul, Nat.add_zero] at this
  exact ⟨b, o, cap, he, this⟩
/-- A number of the heap. -/
theorem MerH.heap_form (h : MerH H F M Cb S lvs hv ss hp) : ∃ a cap, hv = .slice a hp.length cap := by
  obtain ⟨a, len, cap, rfl⟩ := Sl.form h.hh.sl
  have := Sl.length h.hh.sl
  unfold hpI at this
  rw [List.length_map, Nat.mul_one] at this
  exact ⟨a, cap, by rw [this]⟩
theorem heap_at {B cap len : Nat} {a : Option Addr} (h : Own H B 3 1 (.slice a len cap) (hpI hp)) {i : Nat} (hi : i < hp.length) : ∃ g, a = some ⟨g, 0, none⟩ ∧ len = hp.length := by
  have hl := Sl.length h.sl
  unfold hpI at hl
  rw [List.length_map, Nat.mul_one] at hl
  rcases h with ⟨h, _⟩ | ⟨g, len', cap', c, he, _⟩
  · cases h; omega
  · cases he; exact ⟨g, rfl, hl.symm⟩
theorem heap_get {B cap len g : Nat} (h : Own H B 3 1 (.slice (some ⟨g, 0, none⟩) len cap) (hpI hp)) {i : Nat} (hi : i < hp.length) : hget H g i = some (.int .i64 (hp.getD i 0 : Nat)) := by
  obtain ⟨_, _, rfl⟩ := heap_at h hi
  have := Sl.get h.sl (i := i) (by omega)
  rw [Nat.zero_add] at this
  rw [this]
  unfold hpI
  rw [List.getElem?_map, List.getElem?_eq_getElem hi, List.getD_eq_getElem?_getD, List.getElem?_eq_getElem hi]
  rfl
end
section
variable {H H2 : Heap} {F : Nat → Prop} {M Cb S : Nat} {lvs : List Value} {hv hv' : Value} {ss : List Src} {hp hp' : List Nat}
theorem lv_tag {i g : Nat} (h : MerH H F M Cb S lvs hv ss hp) (hi : i < ss.length) (hg : blk (lvs.getD i undef) = some g) : ∃ c, H[g]? = some (.cells c 24 (0, 0)) := ((h.hl i hi).blk hg).2.2
/-- The heap's block alone has turned. -/
theorem MerH.setH (h : MerH H F M Cb S lvs hv ss hp) {g : Nat} (hb : But (some g) H H2) (hg : blk hv = some g) (hn : Own H2 0 3 1 hv (hpI hp')) : MerH H2 F M Cb S lvs hv ss hp' ∧ Ch F F H H2 := by
  obtain ⟨c, hc, hc2⟩ := h.hS
  obtain ⟨l1, l2, l3⟩ := h.lt
  obtain ⟨_, hgs, cg, hcg⟩ := h.hh.blk hg
  have e1 := tag_ne h.hM hcg (by decide)
  have e2 := tag_ne h.hC hcg (by decide)
  have e3 := tag_ne hc hcg (by decide)
  have k : ∀ b, b < H.size → b ≠ g → H2[b]? = H[b]? := fun b hb' hne => hb.get b hb' (by simpa using hne)
  refine ⟨⟨by rw [k _ l1 e1]; exact h.hM, by rw [k _ l2 e2]; exact h.hC, ⟨c, by rw [k _ l3 e3]; exact hc, hc2⟩, fun i hi => (h.hl i hi).keep fun g' hg' => ?_, hn, h.dis, h.fM, h.fC, h.fS, h.fl, h.fh, h.k64⟩, ⟨hb.size, fun _ h => .inl h, fun b hb' hnf => k b hb' fun e => hnf (e ▸ h.fh g hg)⟩⟩
  obtain ⟨d, hd'⟩ := lv_tag h hi hg'
  exact k g' (Array.getElem?_eq_some_iff.1 hd').1 (tag_ne hd' hcg (by decide))
/-- A new heap slice laid into the merger. -/
theorem MerH.newH (h : MerH H F M Cb S lvs hv ss hp) (hb : But (blk hv) H H2) (hn : Own H2 0 3 1 hv' (hpI hp')) (ha : blk hv' = blk hv ∨ ∃ k, blk hv' = some k ∧ H.size ≤ k) :
    hcan H2 M 1 1 ∧ ∃ F', MerH (hput H2 M 1 [hv']) F' M Cb S lvs hv' ss hp' ∧ Ch F F' H (hput H2 M 1 [hv']) := by
  obtain ⟨c, hc, hc2⟩ := h.hS
  obtain ⟨l1, l2, l3⟩ := h.lt
  have hne : ∀ (b : Nat) (x : Array Value) (e : TypeId) (fr : Nat × Nat), H[b]? = some (Obj.cells x e fr) → e ≠ 3 → some b ≠ blk hv := by
    intro b x e fr hb' he hbe
    obtain ⟨_, _, cg, hcg⟩ := h.hh.blk hbe.symm
    exact tag_ne hb' hcg he rfl
  have k : ∀ (b : Nat) (x : Array Value) (e : TypeId) (fr : Nat × Nat), H[b]? = some (Obj.cells x e fr) → e ≠ 3 → H2[b]? = H[b]? := fun b x e fr hb' he => hb.get b (Array.getElem?_eq_some_iff.1 hb').1 (hne b x e fr hb' he)
  have hM2 : H2[M]? = some (.cells #[.slice (some ⟨S, 0, none⟩) ss.length ss.length, hv, .func (.func 54) #[] #[.pointer (some ⟨Cb, 0, none⟩)]] 86) := by rw [k _ _ _ _ h.hM (by decide)]; exact h.hM
  have hC2 : H2[Cb]? = some (.cells #[.pointer (some ⟨M, 0, none⟩)] 46) := by rw [k _ _ _ _ h.hC (by decide)]; exact h.hC
  have hS2 : H2[S]? = some (.cells c 88) := by rw [k _ _ _ _ hc (by decide)]; exact hc
  have k2 : ∀ b, b ≠ M → (hput H2 M 1 [hv'])[b]? = H2[b]? := fun b hne' => hput_other _ _ _ _ hne'
  refine ⟨⟨_, _, _, hM2, by simp, by simp⟩, fun b => F b ∨ blk hv' = some b, ⟨?_, ?_, ⟨c, ?_, hc2⟩, fun i hi => ?_, ?_, h.dis, .inl h.fM, .inl h.fC, .inl h.fS, fun i b hi hb' => .inl (h.fl i b hi hb'), fun b hb' => .inr hb', h.k64⟩, ⟨?_, fun b hb' => ?_, fun b hb' hnf => ?_⟩⟩
  · rw [hput_same hM2]
    rfl
  · rw [k2 _ (tag_ne h.hC h.hM (by decide))]; exact hC2
  · rw [k2 _ (tag_ne hc h.hM (by decide))]; exact hS2
  · refine (h.hl i hi).keep fun g hg => ?_
    obtain ⟨d, hd'⟩ := lv_tag h hi hg
    rw [k2 _ (tag_ne hd' h.hM (by decide)), k _ _ _ _ hd' (by decide)]
  · refine hn.keep fun g hg => k2 _ ?_
    obtain ⟨_, _, cg, hcg⟩ := hn.blk hg
    exact tag_ne hcg hM2 (by decide)
  · rw [hput_size]; exact hb.size
  · rcases hb' with hb' | hb'
    · exact .inl hb'
    · rcases ha with ha | ⟨g, hg, hge⟩
      · exact .inl (h.fh b (by rw [← ha]; exact hb'))
      · rw [hg] at hb'; cases hb'; exact .inr hge
  · rw [k2 b (fun e => hnf (e ▸ h.fM)), hb.get b hb' (fun e => hnf (h.fh b e.symm))]
/-- A source's fields laid anew, its list as it was. -/
theorem MerH.setS (h : MerH H F M Cb S lvs hv ss hp) {i k : Nat} {xs : List Value} {s' : Src} (hi : i < ss.length) (hk : k + xs.length ≤ 5)
    (hn : five (lvs.getD i undef) s' = (five (lvs.getD i undef) (sg ss i)).take k ++ xs ++ (five (lvs.getD i undef) (sg ss i)).drop (k + xs.length)) (hl : s'.l = (sg ss i).l) :
    hcan H S (i * 5 + k) xs.length ∧ MerH (hput H S (i * 5 + k) xs) F M Cb S lvs hv (ss.set i s') hp ∧ Ch F F H (hput H S (i * 5 + k) xs) := by
  obtain ⟨c, hc, hc2⟩ := h.hS
  have hlv := h.lvlen
  have k2 : ∀ b, b ≠ S → (hput H S (i * 5 + k) xs)[b]? = H[b]? := fun b hne' => hput_other _ _ _ _ hne'
  have hput2 := hc2.put hi hk hn
  have hls : lvs.set i (lvs.getD i undef) = lvs := by
    apply List.ext_getElem?
    intro j
    rw [List.getElem?_set]
    by_cases hij : i = j
    · subst hij
      rw [if_pos rfl, if_pos (by omega), List.getD_eq_getElem?_getD, List.getElem?_eq_getElem (by omega)]
      rfl
    · rw [if_neg hij]
  rw [hls] at hput2
  refine ⟨⟨c, _, _, hc, by have := hc2.1; omega, by simp⟩, ⟨?_, ?_, ⟨_, hput_same hc, hput2⟩, fun j hj => ?_, ?_, ?_, h.fM, h.fC, h.fS, ?_, h.fh, by rw [List.length_set]; exact h.k64⟩, ⟨by rw [hput_size]; exact Nat.le_refl _, fun _ h => .inl h, fun b _ hnf => k2 b (fun e => hnf (e ▸ h.fS))⟩⟩
  · rw [k2 _ (tag_ne h.hM hc (by decide)), List.length_set]; exact h.hM
  · rw [k2 _ (tag_ne h.hC hc (by decide))]; exact h.hC
  · rw [List.length_set] at hj
    rw [sg_set hi]
    have e : (if j = i then s' else sg ss j).l = (sg ss j).l := by
      by_cases hji : j = i
      · rw [if_pos hji, hl, hji]
      · rw [if_neg hji]
    rw [e]
    refine (h.hl j hj).keep fun g hg => k2 _ ?_
    obtain ⟨d, hd'⟩ := lv_tag h hj hg
    exact tag_ne hd' hc (by decide)
  · refine h.hh.keep fun g hg => k2 _ ?_
    obtain ⟨_, _, cg, hcg⟩ := h.hh.blk hg
    exact tag_ne hcg hc (by decide)
  · intro a b ha hb hab
    rw [List.length_set] at ha hb
    exact h.dis a b ha hb hab
  · intro a b ha
    rw [List.length_set] at ha
    exact h.fl a b ha
/-- A source's list laid anew. -/
theorem MerH.setL (h : MerH H F M Cb S lvs hv ss hp) {i : Nat} {lv' : Value} {l' : List Pr} (hi : i < ss.length) (hb : But (blk (lvs.getD i undef)) H H2) (hn : Own2 H2 0 24 2 lv' (cp l')) (ha : blk lv' = blk (lvs.getD i undef) ∨ ∃ k, blk lv' = some k ∧ H.size ≤ k) :
    hcan H2 S (i * 5) 1 ∧ ∃ F', MerH (hput H2 S (i * 5) [lv']) F' M Cb S (lvs.set i lv') hv (ss.set i { sg ss i with l := l' }) hp ∧ Ch F F' H (hput H2 S (i * 5) [lv']) := by
  obtain ⟨c, hc, hc2⟩ := h.hS
  have hlv := h.lvlen
  have hne : ∀ (b : Nat) (x : Array Value) (e : TypeId) (fr : Nat × Nat), H[b]? = some (Obj.cells x e fr) → e ≠ 24 → some b ≠ blk (lvs.getD i undef) := by
    intro b x e fr hb' he hbe
    obtain ⟨d, hd'⟩ := lv_tag h hi hbe.symm
    exact tag_ne hb' hd' he rfl
  have k : ∀ (b : Nat) (x : Array Value) (e : TypeId) (fr : Nat × Nat), H[b]? = some (Obj.cells x e fr) → e ≠ 24 → H2[b]? = H[b]? := fun b x e fr hb' he => hb.get b (Array.getElem?_eq_some_iff.1 hb').1 (hne b x e fr hb' he)
  have hS2 : H2[S]? = some (.cells c 88) := by rw [k _ _ _ _ hc (by decide)]; exact hc
  have k2 : ∀ b, b ≠ S → (hput H2 S (i * 5) [lv'])[b]? = H2[b]? := fun b hne' => hput_other _ _ _ _ hne'
  have hput2 := hc2.put (k := 0) (xs := [lv']) hi (by simp) (lv' := lv') (s' := { sg ss i with l := l' }) (by rfl)
  rw [Nat.add_zero] at hput2
  refine ⟨⟨c, _, _, hS2, by have := hc2.1; omega, by simp⟩, fun b => F b ∨ blk lv' = some b, ⟨?_, ?_, ⟨_, hput_same hS2, hput2⟩, fun j hj => ?_, ?_, ?_, .inl h.fM, .inl h.fC, .inl h.fS, ?_, fun b hb' => .inl (h.fh b hb'), by rw [List.length_set]; exact h.k64⟩, ⟨by rw [hput_size]; exact hb.size, fun b hb' => ?_, fun b hb' hnf => ?_⟩⟩
  · rw [k2 _ (tag_ne h.hM hc (by decide)), k _ _ _ _ h.hM (by decide), List.length_set]; exact h.hM
  · rw [k2 _ (tag_ne h.hC hc (by decide)), k _ _ _ _ h.hC (by decide)]; exact h.hC
  · rw [List.length_set] at hj
    rw [sg_set hi, lv_set (by omega)]
    by_cases hji : j = i
    · rw [if_pos hji, if_pos hji]
      refine hn.keep fun g hg => k2 _ ?_
      obtain ⟨_, _, cg, hcg⟩ := hn.blk hg
      exact tag_ne hcg hS2 (by decide)
    · rw [if_neg hji, if_neg hji]
      refine (h.hl j hj).keep fun g hg => ?_
      obtain ⟨d, hd'⟩ := lv_tag h hj hg
      rw [k2 _ (tag_ne hd' hc (by decide)), hb.get g (Array.getElem?_eq_some_iff.1 hd').1 ?_]
      intro e
      rcases h.dis j i hj hi hji with e1 | e1
      · rw [hg] at e1; cases e1
      · exact e1 (by rw [hg, e])
  · refine h.hh.keep fun g hg => ?_
    obtain ⟨_, _, cg, hcg⟩ := h.hh.blk hg
    rw [k2 _ (tag_ne hcg hc (by decide)), k _ _ _ _ hcg (by decide)]
  · intro a b ha' hb' hab
    rw [List.length_set] at ha' hb'
    rw [lv_set (by omega), lv_set (by omega)]
    have new : ∀ j, j < ss.length → j ≠ i → blk lv' = none ∨ blk lv' ≠ blk (lvs.getD j undef) := by
      intro j hj hji
      rcases ha with ha | ⟨g, hg, hge⟩
      · rw [ha]; exact h.dis i j hi hj (Ne.symm hji)
      · right
        intro e
        rw [hg] at e
        obtain ⟨d, hd'⟩ := lv_tag h hj e.symm
        have := (Array.getElem?_eq_some_iff.1 hd').1
        omega
    by_cases hai : a = i
    · rw [if_pos hai, if_neg (fun e => hab (by rw [hai, e]))]
      exact new b hb' (fun e => hab (by rw [hai, e]))
    · rw [if_neg hai]
      by_cases hbi : b = i
      · rw [if_pos hbi]
        rcases new a ha' hai with e | e
        · rw [e]
          cases hba : blk (lvs.getD a undef) with
          | none => exact .inl rfl
          | some g => right; simp
        · exact .inr (Ne.symm e)
      · rw [if_neg hbi]
        exact h.dis a b ha' hb' hab
  · intro a b ha'
    rw [List.length_set] at ha'
    rw [lv_set (by omega)]
    by_cases hai : a = i
    · rw [if_pos hai]; exact fun e => .inr e
    · rw [if_neg hai]; exact fun e => .inl (h.fl a b ha' e)
  · rcases hb' with hb' | hb'
    · exact .inl hb'
    · rcases ha with ha | ⟨g, hg, hge⟩
      · exact .inl (h.fl i b hi (by rw [← ha]; exact hb'))
      · rw [hg] at hb'; cases hb'; exact .inr hge
  · rw [k2 b (fun e => hnf (e ▸ h.fS)), hb.get b hb' (fun e => hnf (h.fl i b hi e.symm))]
end
/-- less of two sources' first arcs. -/
theorem F54 {H : Heap} {F : Nat → Prop} {M Cb S : Nat} {lvs : List Value} {hv : Value} {ss : List Src} {hp : List Nat} (h : MerH H F M Cb S lvs hv ss hp) {i j : Nat} (hi : i < ss.length) (hj : j < ss.length) (ni : (sg ss i).l ≠ []) (nj : (sg ss j).l ≠ []) :
    Fun Try.prog 54 #[.int .i64 i, .int .i64 j, .pointer (some ⟨Cb, 0, none⟩)] H (fun r H' => r = .bool (ltP (hd ss i) (hd ss j)) ∧ Ext H H') := by
  refine fun_of mixed (args := [_, _, _]) Try.func54 Try.ntmps54 b54 r54 rfl ?_
  obtain ⟨m0, m1, m2, m3⟩ := h.getM
  obtain ⟨bi, oi, ci, ei, gi1, gi2⟩ := h.getHead hi ni
  obtain ⟨bj, oj, cj, ej, gj1, gj2⟩ := h.getHead hj nj
  have si := (h.getS hi).1
  have sj := (h.getS hj).1
  rw [ei] at si
  rw [ej] at sj
  have pi : (0 : Int) < (sg ss i).l.length := by have := List.length_pos_iff.2 ni; omega
  have pj : (0 : Int) < (sg ss j).l.length := by have := List.length_pos_iff.2 nj; omega
  have zi : (0 : Int) ≤ i := by omega
  have zj : (0 : Int) ≤ j := by omega
  have li : (i : Int) < ss.length := by omega
  have lj : (j : Int) < ss.length := by omega
  simp only [go_sem, ↓reduceIte, Nat.reduceEqDiff, Nat.reduceLeDiff, Nat.reduceAdd, Nat.reduceMul, Nat.reduceSub, Nat.reduceBEq, Nat.reduceGT, Nat.reduceLT, Int.reduceLE, Int.reduceLT, Int.reduceNeg, reduceCtorEq, m0, m3, si, sj, gi1, gi2, gj1, gj2, pi, pj, zi, zj, li, lj, Int.toNat_natCast, Option.bind_some, ext_push, ext_refl, show Int.toNat 0 = 0 from rfl]
  refine FunI.by (F12 (hd ss i) (hd ss j) H) ?_
  rintro _ H2 ⟨rfl, hx⟩
  simp only [go_sem, ↓reduceIte, Nat.reduceEqDiff, Nat.reduceLeDiff, Nat.reduceAdd, Nat.reduceMul, Nat.reduceSub, Nat.reduceBEq, Nat.reduceGT, Nat.reduceLT, Int.reduceLE, Int.reduceLT, Int.reduceNeg, reduceCtorEq]
  exact hx
end Go.Proofs.Ytcgejfmbhpmjfaa
