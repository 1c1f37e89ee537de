/- A file system in memory. -/
import Derived.Test.YtgigigchjnnonaaGreatDoorVFsP
import Derived.Test.YtgigigchjnnonaaGreatDoorVCode
set_option linter.unusedSimpArgs false
set_option linter.unusedVariables false
set_option maxRecDepth 20000
namespace Go.V
open Go
attribute [go_sem] Option.isNone_none Option.isNone_some
@[go_sem] theorem hgets5 {H : Heap} {b o : Nat} : hgets H b o 5 = (hget H b o).bind fun v0 => (hget H b (o + 1)).bind fun v1 => (hget H b (o + 2)).bind fun v2 => (hget H b (o + 3)).bind fun v3 => (hget H b (o + 4)).bind fun v4 => some [v0, v1, v2, v3, v4] := by
  simp only [hgets, Nat.add_assoc]
  cases hget H b o <;> cases hget H b (o + 1) <;> cases hget H b (o + 2) <;> cases hget H b (o + 3) <;> cases hget H b (o + 4) <;> rfl
/-- What has changed lies in F, and F' is what lay in F or is new. -/
structure Ch (F F' : Nat → Prop) (H H' : Heap) : Prop where
  size : H.size ≤ H'.size
  old : ∀ b, F' b → F b ∨ H.size ≤ b
  get : ∀ b, b < H.size → ¬ F b → H'[b]? = H[b]?
theorem Ch.refl (F : Nat → Prop) (H : Heap) : Ch F F H H := ⟨Nat.le_refl _, fun _ h => .inl h, fun _ _ _ => rfl⟩
theorem Ch.trans {F F' F'' : Nat → Prop} {H H' H'' : Heap} (h : Ch F F' H H') (k : Ch F' F'' H' H'') : Ch F F'' H H'' := by
  refine ⟨Nat.le_trans h.size k.size, fun b hb => ?_, fun b hb hn => ?_⟩
  · rcases k.old b hb with e | e
    · exact h.old b e
    · exact .inr (Nat.le_trans h.size e)
  · rw [k.get b (Nat.lt_of_lt_of_le hb h.size) fun e => ?_, h.get b hb hn]
    rcases h.old b e with e | e
    · exact hn e
    · omega
theorem Ext.ch {F : Nat → Prop} {H H' : Heap} (h : Ext H H') : Ch F F H H' := ⟨h.size, fun _ h => .inl h, fun b hb _ => h.get b hb⟩
theorem hget_cells {H : Heap} {b o : Nat} {c : Array Value} {e : TypeId} {fr : Nat × Nat} (h : H[b]? = some (.cells c e fr)) : hget H b o = c[o]? := by
  unfold hget; rw [h]
theorem tag_ne {H : Heap} {b g : Nat} {c d : Array Value} {e e' : TypeId} {fr fr' : Nat × Nat} (h : H[b]? = some (.cells c e fr)) (k : H[g]? = some (.cells d e' fr')) (hne : e ≠ e') : b ≠ g := by
  rintro rfl
  rw [h] at k
  cases k
  exact hne rfl
theorem map_ne {H : Heap} {b g : Nat} {c : Array Value} {e : TypeId} {fr : Nat × Nat} {es : Array MapEntry} {cl : Nat} (h : H[b]? = some (.cells c e fr)) (k : H[g]? = some (.map es cl)) : b ≠ g := by
  rintro rfl
  rw [h] at k
  cases k
theorem All2.mem {α β : Type} {R : α → β → Prop} : ∀ {l : List α} {r : List β}, All2 R l r → ∀ {a : α}, a ∈ l → ∃ b ∈ r, R a b
  | [], [], _, a, h => by simp at h
  | x :: l, y :: r, h, a, ha => by
    rcases List.mem_cons.1 ha with rfl | ha
    · exact ⟨y, List.mem_cons_self, h.1⟩
    · obtain ⟨b, hb, hr⟩ := All2.mem h.2 ha
      exact ⟨b, List.mem_cons_of_mem _ hb, hr⟩
end Go.V
namespace Go.Proofs.YtgigigchjnnonaaGreatDoor
open Go Go.V

/-- A directory in memory. -/
def DirH (H : Heap) (b : Nat) (D : Dir) : Prop := ∃ l c, MapH Value.string H b l c ∧ ∀ n, getM l n = (D n).map ptrOf
def HeldH (H : Heap) (b : Nat) (hs : List Nat) : Prop := ∃ l c, MapH ptrOf H b l c ∧ (l.map (·.key)).Perm hs
/-- An operation that pends. -/
def PendH (H : Heap) (F : Nat → Prop) (v : Value) (p : Nat × Nm) : Prop :=
  ∃ c1 c2, v = .func (.func 269) #[] #[ptrOf c1, ptrOf c2] ∧ F c1 ∧ F c2 ∧ H[c1]? = some (.cells #[ptrOf p.1] 115) ∧ H[c2]? = some (.cells #[.string p.2] 9)
def stC (s : St) (mb lb hb : Nat) (pv : Value) : Array Value := #[.int .i64 s.room, .map (some mb), .map (some lb), pv, .map (some hb), .bool s.off, .int .i64 s.fuse, .int .i64 s.ops]
/-- A file's block. -/
def FileH (H : Heap) (F : Nat → Prop) (f : Nat) (dv : Value) (d : List Int) (sy : Nat) : Prop :=
  F f ∧ H[f]? = some (.cells #[dv, .int .i64 sy] 117) ∧ V.Own H 0 5 1 dv (d.map (.int .u8)) ∧ ∀ g, blk dv = some g → F g
structure FsP (H : Heap) (F : Nat → Prop) (b mb lb hb : Nat) (pv : Value) (dv : Nat → Value) (s : St) : Prop where
  hM : H[b]? = some (.cells (stC s mb lb hb pv) 89)
  hN : DirH H mb s.now
  hL : DirH H lb s.last
  hH : HeldH H hb s.held
  hp : ∃ vs, V.Own H 0 165 1 pv vs ∧ All2 (PendH H F) vs s.pend
  hf : ∀ f ∈ s.held, FileH H F f (dv f) (s.dat f) (s.syn f)
  dis : ∀ f ∈ s.held, ∀ g ∈ s.held, f ≠ g → blk (dv f) = none ∨ blk (dv f) ≠ blk (dv g)
  ne : mb ≠ lb ∧ mb ≠ hb ∧ lb ≠ hb
  fb : F b
  fm : F mb
  fl : F lb
  fh : F hb
  fp : ∀ g, blk pv = some g → F g
  lt : ∀ g, F g → g < H.size
def FsH (H : Heap) (F : Nat → Prop) (b : Nat) (s : St) : Prop := ∃ mb lb hb pv dv, FsP H F b mb lb hb pv dv s
section
variable {H H' : Heap} {F F' : Nat → Prop} {b mb lb hb : Nat} {pv : Value} {dv : Nat → Value} {s : St} {D : Dir} {hs : List Nat}
theorem DirH.keep (h : DirH H b D) (hk : H'[b]? = H[b]?) : DirH H' b D := let ⟨l, c, h1, h2⟩ := h; ⟨l, c, h1.keep hk, h2⟩
theorem HeldH.keep (h : HeldH H b hs) (hk : H'[b]? = H[b]?) : HeldH H' b hs := let ⟨l, c, h1, h2⟩ := h; ⟨l, c, h1.keep hk, h2⟩
theorem PendH.keep {v : Value} {p : Nat × Nm} (h : PendH H F v p) (hF : ∀ g, F g → F' g) (hk : ∀ (g : Nat) (c : Array Value) (t : TypeId), F g → H[g]? = some (.cells c t) → t = 115 ∨ t = 9 → H'[g]? = H[g]?) : PendH H' F' v p := by
  obtain ⟨c1, c2, h1, h2, h3, h4, h5⟩ := h
  exact ⟨c1, c2, h1, hF _ h2, hF _ h3, by rw [hk c1 _ _ h2 h4 (.inl rfl)]; exact h4, by rw [hk c2 _ _ h3 h5 (.inr rfl)]; exact h5⟩
theorem FileH.keep {f sy : Nat} {d : List Int} {v : Value} (h : FileH H F f v d sy) (hF : ∀ g, F g → F' g) (hk : H'[f]? = H[f]?) (hk2 : ∀ g, blk v = some g → H'[g]? = H[g]?) : FileH H' F' f v d sy :=
  ⟨hF _ h.1, by rw [hk]; exact h.2.1, h.2.2.1.keep hk2, fun g hg => hF _ (h.2.2.2 g hg)⟩
/-- Its own blocks are as they were. -/
theorem FsP.keep (h : FsP H F b mb lb hb pv dv s) (hs : H.size ≤ H'.size) (hk : ∀ g, F g → H'[g]? = H[g]?) : FsP H' F b mb lb hb pv dv s := by
  obtain ⟨vs, p1, p2⟩ := h.hp
  exact ⟨by rw [hk _ h.fb]; exact h.hM, h.hN.keep (hk _ h.fm), h.hL.keep (hk _ h.fl), h.hH.keep (hk _ h.fh), ⟨vs, p1.keep fun g hg => hk g (h.fp g hg), p2.mono fun v p hv => hv.keep (fun _ h => h) fun g _ _ hg _ _ => hk g hg⟩,
    fun f hf => (h.hf f hf).keep (fun _ h => h) (hk _ (h.hf f hf).1) fun g hg => hk g ((h.hf f hf).2.2.2 g hg), h.dis, h.ne, h.fb, h.fm, h.fl, h.fh, h.fp, fun g hg => Nat.lt_of_lt_of_le (h.lt g hg) hs⟩
theorem FsP.ext (h : FsP H F b mb lb hb pv dv s) (hx : Ext H H') : FsP H' F b mb lb hb pv dv s := h.keep hx.size fun g hg => hx.get g (h.lt g hg)
theorem FsH.ext (h : FsH H F b s) (hx : Ext H H') : FsH H' F b s := let ⟨_, _, _, _, _, h⟩ := h; ⟨_, _, _, _, _, h.ext hx⟩
/-- What another one's call turns is no part of this one. -/
theorem FsH.other {F2 F2' : Nat → Prop} (h : FsH H F b s) (hc : Ch F2 F2' H H') (hd : ∀ g, F g → ¬ F2 g) : FsH H' F b s ∧ ∀ g, F g → ¬ F2' g := by
  obtain ⟨_, _, _, _, _, h⟩ := h
  refine ⟨⟨_, _, _, _, _, h.keep hc.size fun g hg => hc.get g (h.lt g hg) (hd g hg)⟩, fun g hg hg2 => ?_⟩
  rcases hc.old g hg2 with e | e
  · exact hd g hg e
  · have := h.lt g hg; omega
theorem FsP.get (h : FsP H F b mb lb hb pv dv s) : hget H b 0 = some (.int .i64 s.room) ∧ hget H b 1 = some (.map (some mb)) ∧ hget H b 2 = some (.map (some lb)) ∧ hget H b 3 = some pv ∧ hget H b 4 = some (.map (some hb)) ∧ hget H b 5 = some (.bool s.off) ∧ hget H b 6 = some (.int .i64 s.fuse) ∧ hget H b 7 = some (.int .i64 s.ops) := by
  simp only [hget_cells h.hM]
  exact ⟨rfl, rfl, rfl, rfl, rfl, rfl, rfl, rfl⟩
theorem stands_cells {g : Nat} {c : Array Value} {t : TypeId} (h : H[g]? = some (.cells c t)) : Stands H g := ⟨c, t, h⟩
/-- The block b alone is written: power, fuse, count. -/
theorem FsP.setB (h : FsP H F b mb lb hb pv dv s) {s' : St} (e1 : s'.room = s.room) (e2 : s'.now = s.now) (e3 : s'.last = s.last) (e4 : s'.pend = s.pend) (e5 : s'.held = s.held) (e6 : s'.dat = s.dat) (e7 : s'.syn = s.syn)
    (hs : H'.size = H.size) (hk : ∀ g, g ≠ b → H'[g]? = H[g]?) (hb' : H'[b]? = some (.cells (stC s' mb lb hb pv) 89)) : FsP H' F b mb lb hb pv dv s' ∧ Ch F F H H' := by
  obtain ⟨vs, p1, p2⟩ := h.hp
  obtain ⟨l1, c1, m1, _⟩ := h.hN
  obtain ⟨l2, c2, m2, _⟩ := h.hL
  obtain ⟨l3, c3, m3, _⟩ := h.hH
  have km := hk mb (map_ne h.hM m1.hb).symm
  have kl := hk lb (map_ne h.hM m2.hb).symm
  have kh := hk hb (map_ne h.hM m3.hb).symm
  have ko : ∀ {v : Value} {e : TypeId} {sz : Nat} {xs : List Value}, V.Own H 0 e sz v xs → e ≠ 89 → ∀ g, blk v = some g → H'[g]? = H[g]? := fun ho he g hg => by
    obtain ⟨_, _, c, hc⟩ := ho.blk hg
    exact hk g (tag_ne hc h.hM he)
  refine ⟨⟨hb', by rw [e2]; exact h.hN.keep km, by rw [e3]; exact h.hL.keep kl, by rw [e5]; exact h.hH.keep kh, ⟨vs, p1.keep (ko p1 (by decide)), by
    rw [e4]; exact p2.mono fun v p hv => hv.keep (fun _ h => h) fun g c t _ hg ht => hk g (tag_ne hg h.hM (by rcases ht with rfl | rfl; exact (by decide : 115 ≠ 89); exact (by decide : 9 ≠ 89)))⟩, fun f hf => ?_, ?_, h.ne, h.fb, h.fm, h.fl, h.fh, h.fp, fun g hg => by rw [hs]; exact h.lt g hg⟩, ⟨by omega, fun _ h => .inl h, fun g _ hg => hk g fun e => hg (e ▸ h.fb)⟩⟩
  · rw [e5] at hf
    rw [e6, e7]
    have hf' := h.hf f hf
    exact hf'.keep (fun _ h => h) (hk f (tag_ne hf'.2.1 h.hM (by decide : 117 ≠ 89))) (ko hf'.2.2.1 (by decide))
  · rw [e5]; exact h.dis
end
end Go.Proofs.YtgigigchjnnonaaGreatDoor
