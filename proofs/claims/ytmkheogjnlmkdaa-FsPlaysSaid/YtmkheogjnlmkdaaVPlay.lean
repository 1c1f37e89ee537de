/- One call at both file systems. -/
import Derived.Test.YtmkheogjnlmkdaaVRgG
import Derived.Test.YtmkheogjnlmkdaaVRgH
import Derived.Test.YtmkheogjnlmkdaaVOps
set_option linter.unusedSimpArgs false
set_option linter.unusedVariables false
set_option maxRecDepth 20000
namespace Go.V
open Go
section
variable {H H' : Heap}
theorem DrawnI.at {P : Program} {T : Tys} {l : Tr} {ρ : Env} {H : Heap} {Q : Post} (N : Nat → Prop) (h : @drawsNI P T N H l ρ H ⟨Q⟩) : @DrawnI P T l ρ H ⟨Q⟩ := ⟨N, h⟩
theorem Kept.refl (N : Nat → Prop) (H : Heap) : Kept N H H := ⟨Nat.le_refl _, fun _ _ _ => rfl⟩
theorem Ch.kept {F F' N : Nat → Prop} (h : Ch F F' H H') (hN : ∀ x, N x → ¬ F x) : Kept N H H' := ⟨h.size, fun x hx hn => h.get x hx (hN x hn)⟩
theorem Kept.trans {N : Nat → Prop} {H2 : Heap} (h : Kept N H H') (k : Kept N H' H2) : Kept N H H2 := ⟨Nat.le_trans h.1 k.1, fun x hx hn => (k.2 x (Nat.lt_of_lt_of_le hx h.1) hn).trans (h.2 x hx hn)⟩
theorem Ch.ext {F : Nat → Prop} (h : Ext H H') : Ch F F H H' := ⟨h.size, fun _ h => .inl h, fun x hx _ => h.get x hx⟩
theorem Ch.union {F F' G G' U : Nat → Prop} {H2 H3 : Heap} (c1 : Ch F F' H H2) (c2 : Ch G G' H2 H3) (hU : ∀ x, U x ↔ (F x ∨ G x)) : Ch U (fun x => F' x ∨ G' x) H H3 := by
  refine ⟨Nat.le_trans c1.size c2.size, fun x hx => ?_, fun x hx hn => ?_⟩
  · rcases hx with hx | hx
    · exact (c1.old x hx).imp_left fun h => (hU x).2 (.inl h)
    · rcases c2.old x hx with h | h
      · exact .inl ((hU x).2 (.inr h))
      · exact .inr (Nat.le_trans c1.size h)
  · rw [c2.get x (Nat.lt_of_lt_of_le hx c1.size) fun h => hn ((hU x).2 (.inr h)), c1.get x hx fun h => hn ((hU x).2 (.inl h))]
theorem ints_ch {F F' : Nat → Prop} {e : TypeId} {k : IntKind} {v : Value} {xs : List Int} (h : Ints H e k v xs) (c : Ch F F' H H') (hn : xs ≠ [] → ∀ g, blk v = some g → ¬ F g) : Ints H' e k v xs := by
  by_cases h0 : xs = []
  · subst h0
    obtain ⟨a, cp, rfl⟩ := h.form
    obtain ⟨a', m, c', e1, h1, h2, h3⟩ := h
    exact ⟨a', m, c', e1, h1, h2, .inl (by simpa using h2.symm)⟩
  · exact Sl.keepN h c.size fun g hg hl => c.get g hl (hn h0 g hg)
/-- Then some that are new were turned. -/
theorem Ch.more {U U' V V' : Nat → Prop} {H2 : Heap} (h : Ch U U' H H') (k : Ch V V' H' H2) (hV : ∀ x, V x → H.size ≤ x) : Ch U U' H H2 :=
  ⟨Nat.le_trans h.size k.size, h.old, fun x hx hn => (k.get x (Nat.lt_of_lt_of_le hx h.size) fun hv => by have := hV x hv; omega).trans (h.get x hx hn)⟩
end
end Go.V
namespace Go.Proofs.Ytmkheogjnlmkdaa
open Go Go.V
-- 44: (pith/pithlaw8.both).plays
-- 27: (pith/pithlaw8.both).tells
-- 22: pith/pithlaw8.num
-- 39: (*pith/fs.FS).Create
-- 20: (*pith/fs.FS).Append
-- 21: (*pith/fs.FS).Sync
-- 45: (*pith/fs.FS).Rename
-- 46: (*pith/fs.FS).Remove
-- 34: (*pith/fs.FS).SyncDir
-- 31: (*pith/fs.FS).Read
-- 32: (*pith/fs.FS).Size
-- 28: (*pith/fs.FS).Arm
-- 25: (*pith/fs.FS).Crash
-- 81: (*pith/fs.FS).Rot
-- 68: (*pith/pithref8.FS).Create
-- 70: (*pith/pithref8.FS).Append
-- 71: (*pith/pithref8.FS).Sync
-- 72: (*pith/pithref8.FS).Rename
-- 73: (*pith/pithref8.FS).Remove
-- 74: (*pith/pithref8.FS).SyncDir
-- 75: (*pith/pithref8.FS).Read
-- 76: (*pith/pithref8.FS).Size
-- 77: (*pith/pithref8.FS).Arm
-- 79: (*pith/pithref8.FS).Crash
-- 82: (*pith/pithref8.FS).Rot
-- 69: pith/pithref.Bytes
-- 48: pith/pithref.SameBytes
-- 78: pith/pithref.Ints
-- 80: pith/pithref.SameInts
-- 51: pithlaw8.both
-- 75: pithlaw8.Op
-- 5: uint8
-- 3: int
-- 34: []uint8
-- 62: []int
structure B8 (H : Heap) (F G : Nat → Prop) (b c : Nat) (φ : Nat → Nat) (s : St) (r : RSt) : Prop where
  f : FsH H F b s
  g : RFsH H G c r
  dis : ∀ x, F x → ¬ G x
  ok : Ok s
  lim : Lim r
  sim : Sim8 φ s r
def B8E (H : Heap) (U : Nat → Prop) (b c : Nat) (m : Int) : Prop := ∃ F G φ s r, B8 H F G b c φ s r ∧ s.ops ≤ m ∧ ∀ x, U x ↔ (F x ∨ G x)
section
variable {H H' : Heap} {U F G : Nat → Prop} {b c : Nat} {s : St} {r : RSt} {φ : Nat → Nat} {m : Int}
/-- Both were turned, one behind the other. -/
theorem B8.both {φ' : Nat → Nat} {s' : St} {r' : RSt} {F' G' : Nat → Prop} {H0 H2 H3 : Heap} (h : B8 H F G b c φ s r) (x : Ext H0 H) (c1 : Ch F F' H H2) (f2 : FsH H2 F' b s') (c2 : Ch G G' H2 H3) (g3 : RFsH H3 G' c r') (ok : Ok s') (lim : Lim r') (sim : Sim8 φ' s' r') (hU : ∀ x, U x ↔ (F x ∨ G x)) :
    B8 H3 F' G' b c φ' s' r' ∧ Ch U (fun x => F' x ∨ G' x) H0 H3 := by
  obtain ⟨g2, d2⟩ := h.g.other c1 fun x hx hf => h.dis x hf hx
  obtain ⟨f3, d3⟩ := f2.other c2 fun x hx hg => d2 x hg hx
  exact ⟨⟨f3, g3, d3, ok, lim, sim⟩, (Ch.ext x).trans (Ch.union c1 c2 hU)⟩
theorem B8.next {φ' : Nat → Nat} {s' : St} {r' : RSt} {F' G' : Nat → Prop} {H0 H2 H3 : Heap} {m' : Int} (h : B8 H F G b c φ s r) (x : Ext H0 H) (c1 : Ch F F' H H2) (f2 : FsH H2 F' b s') (c2 : Ch G G' H2 H3) (g3 : RFsH H3 G' c r') (ok : Ok s') (lim : Lim r') (sim : Sim8 φ' s' r') (hU : ∀ x, U x ↔ (F x ∨ G x)) (hm : s'.ops ≤ m') :
    ∃ U', B8E H3 U' b c m' ∧ Ch U U' H0 H3 := by
  obtain ⟨h1, h2⟩ := h.both x c1 f2 c2 g3 ok lim sim hU
  exact ⟨_, ⟨F', G', φ', s', r', h1, hm, fun _ => Iff.rfl⟩, h2⟩
theorem B8.other {V V' : Nat → Prop} (h : B8 H F G b c φ s r) (k : Ch V V' H H') (hF : ∀ x, F x ∨ G x → ¬ V x) : B8 H' F G b c φ s r :=
  ⟨(h.f.other k fun x hx => hF x (.inl hx)).1, (h.g.other k fun x hx => hF x (.inr hx)).1, h.dis, h.ok, h.lim, h.sim⟩
theorem count_ops (s : St) : (countS s).1.ops = s.ops + 1 := by unfold countS; split <;> (try split) <;> rfl
theorem pend_ops (s : St) (x : Nat) (n : Nm) : (pendS s x n).1.ops = s.ops + 1 := by unfold pendS; rw [count_ops]
theorem append_ops (s : St) (n : Nm) (b : List Int) : (appendS s n b).1.ops ≤ s.ops + 1 := by
  unfold appendS
  split
  · split
    · show s.ops ≤ _; omega
    · rw [count_ops]; exact Int.le_refl _
  · show s.ops ≤ _; omega
theorem sync_ops (s : St) (n : Nm) : (syncS s n).1.ops ≤ s.ops + 1 := by
  unfold syncS
  split
  · split
    · show (countS s).1.ops ≤ _; rw [count_ops]; exact Int.le_refl _
    · rw [count_ops]; exact Int.le_refl _
  · show s.ops ≤ _; omega
theorem rename_ops (s : St) (n m : Nm) : (renameS s n m).1.ops ≤ s.ops + 1 := by
  unfold renameS
  split
  · show s.ops ≤ _; omega
  · split
    · show s.ops ≤ _; omega
    · rw [pend_ops]; exact Int.le_refl _
theorem remove_ops (s : St) (n : Nm) : (removeS s n).1.ops ≤ s.ops + 1 := by
  unfold removeS
  split
  · rw [pend_ops]; exact Int.le_refl _
  · show s.ops ≤ _; omega
theorem syncDir_ops (s : St) : (syncDirS s).1.ops ≤ s.ops + 1 := by
  unfold syncDirS
  split
  · show s.ops ≤ _; omega
  · split
    · show (countS s).1.ops ≤ _; rw [count_ops]; exact Int.le_refl _
    · rw [count_ops]; exact Int.le_refl _
theorem arm_ops (s : St) (k : Int) : (armS s k).1.ops ≤ s.ops + 1 := by
  unfold armS
  split
  · show s.ops ≤ _; omega
  · split <;> (show s.ops ≤ _; omega)
theorem rot_ops (s : St) (n : Nm) (a x : Int) : (rotS s n a x).1.ops ≤ s.ops + 1 := by
  unfold rotS
  split
  · split
    · show s.ops ≤ _; omega
    · split <;> (show s.ops ≤ _; omega)
  · show s.ops ≤ _; omega
theorem crash_keeps (s : St) (dir : Int) (cuts : List Int) (ns : List Nm) : (crashS s dir cuts ns).ops = s.ops := (keep_cuts cuts ns 0 { s with now := afterD s.last dir s.pend 0 }).1
theorem create_ops (s : St) (n : Nm) (x : Nat) : (createS s n x).1.ops ≤ s.ops + 1 := by
  unfold createS
  split
  · show s.ops ≤ _; omega
  · split
    · show s.ops ≤ _; omega
    · unfold pendS; rw [count_ops]; exact Int.le_refl _
/-- The boxes of a call's arguments. -/
structure Bx (H K : Heap) (b c : Nat) (y : ClV) : Prop where
  ext : Ext H K
  size : K.size = H.size + 2
  b0 : hget K H.size 0 = some (.pointer (some ⟨b, 0, none⟩))
  b1 : hget K H.size 1 = some (.pointer (some ⟨c, 0, none⟩))
  o0 : hget K (H.size + 1) 0 = some (.int .i64 y.x.kind)
  o1 : hget K (H.size + 1) 1 = some (.int .i64 y.x.a)
  o2 : hget K (H.size + 1) 2 = some (.int .i64 y.x.b)
  o3 : hget K (H.size + 1) 3 = some (.string y.x.n)
  o4 : hget K (H.size + 1) 4 = some (.string y.x.t)
  o5 : hget K (H.size + 1) 5 = some y.dv
  o6 : hget K (H.size + 1) 6 = some y.cv
theorem bx_new (H : Heap) (b c : Nat) (y : ClV) : Bx H ((H.push (.cells #[.pointer (some ⟨b, 0, none⟩), .pointer (some ⟨c, 0, none⟩)] 51)).push (.cells #[.int .i64 y.x.kind, .int .i64 y.x.a, .int .i64 y.x.b, .string y.x.n, .string y.x.t, y.dv, y.cv, .bool y.x.o] 75)) b c y := by
  have k0 : ((H.push (.cells #[.pointer (some ⟨b, 0, none⟩), .pointer (some ⟨c, 0, none⟩)] 51)).push (.cells #[.int .i64 y.x.kind, .int .i64 y.x.a, .int .i64 y.x.b, .string y.x.n, .string y.x.t, y.dv, y.cv, .bool y.x.o] 75))[H.size]? = some (.cells #[.pointer (some ⟨b, 0, none⟩), .pointer (some ⟨c, 0, none⟩)] 51) := by rw [push_old (by simp)]; exact push_new
  have k1 : ((H.push (.cells #[.pointer (some ⟨b, 0, none⟩), .pointer (some ⟨c, 0, none⟩)] 51)).push (.cells #[.int .i64 y.x.kind, .int .i64 y.x.a, .int .i64 y.x.b, .string y.x.n, .string y.x.t, y.dv, y.cv, .bool y.x.o] 75))[H.size + 1]? = some (.cells #[.int .i64 y.x.kind, .int .i64 y.x.a, .int .i64 y.x.b, .string y.x.n, .string y.x.t, y.dv, y.cv, .bool y.x.o] 75) := by
    have : (H.push (.cells #[.pointer (some ⟨b, 0, none⟩), .pointer (some ⟨c, 0, none⟩)] 51)).size = H.size + 1 := by simp
    rw [← this]; exact push_new
  exact ⟨Upto.push (Ext.push _) (by simp) _, by simp, by rw [hget_cells k0]; rfl, by rw [hget_cells k0]; rfl, by rw [hget_cells k1]; rfl, by rw [hget_cells k1]; rfl, by rw [hget_cells k1]; rfl, by rw [hget_cells k1]; rfl, by rw [hget_cells k1]; rfl, by rw [hget_cells k1]; rfl, by rw [hget_cells k1]; rfl⟩
theorem B8.ext (h : B8 H F G b c φ s r) (x : Ext H H') : B8 H' F G b c φ s r := ⟨h.f.ext x, h.g.ext x, h.dis, h.ok, h.lim, h.sim⟩
theorem B8.lt (h : B8 H F G b c φ s r) : (∀ x, F x → x < H.size) ∧ ∀ x, G x → x < H.size := by
  obtain ⟨_, _, _, _, _, p⟩ := h.f
  obtain ⟨_, _, _, _, _, q⟩ := h.g
  exact ⟨p.lt, q.lt⟩
end
end Go.Proofs.Ytmkheogjnlmkdaa
