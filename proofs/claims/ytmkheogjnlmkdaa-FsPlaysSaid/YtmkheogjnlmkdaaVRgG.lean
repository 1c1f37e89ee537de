/- Both file systems side by side: what the reference's contracts ask for, and what both tell. -/
import Derived.Test.YtmkheogjnlmkdaaVRgF
import Derived.Test.YtmkheogjnlmkdaaVRfO
set_option linter.unusedSimpArgs false
set_option linter.unusedVariables false
set_option maxRecDepth 20000
namespace Go.Proofs.Ytmkheogjnlmkdaa
open Go Go.V
/-- Few directories, names, files. -/
structure Lim (r : RSt) : Prop where
  dl : ∀ es ∈ r.dirs, (es.length : Int) ≤ r.count
  fl : (r.files.length : Int) ≤ r.count
  dt : ∀ d ∈ r.files, d.2 ≤ d.1.length ∧ d.1.length ≤ 2147483647 ∧ Byt d.1
theorem Lim.same {r r' : RSt} (h : Lim r) (e1 : r'.dirs = r.dirs) (e2 : r'.files = r.files) (e3 : r.count ≤ r'.count) : Lim r' :=
  ⟨fun es he => by rw [e1] at he; have := h.dl es he; omega, by rw [e2]; have := h.fl; omega, by rw [e2]; exact h.dt⟩
theorem fails_keep (r : RSt) : (failsR r).1.dirs = r.dirs ∧ (failsR r).1.files = r.files ∧ (failsR r).1.count = r.count + 1 ∧ (failsR r).1.pend = r.pend ∧ (failsR r).1.most = r.most := by
  unfold failsR
  split <;> exact ⟨rfl, rfl, rfl, rfl, rfl⟩
theorem now_len {r : RSt} (h : Lim r) : (r.now.length : Int) ≤ r.count := by
  unfold RSt.now
  rw [List.getD_eq_getElem?_getD]
  cases hg : r.dirs[r.dirs.length - 1]? with
  | none => have := h.fl; show ((0 : Nat) : Int) ≤ _; omega
  | some es => exact h.dl es (List.mem_of_getElem? hg)
theorem Lim.does {r r1 : RSt} (h : Lim r) (e1 : r1.dirs = r.dirs) (e2 : (r1.files.length : Int) ≤ r.count + 1) (e3 : r1.count = r.count) (dt : ∀ d ∈ r1.files, d.2 ≤ d.1.length ∧ d.1.length ≤ 2147483647 ∧ Byt d.1) (x : Nat) (n : Nm) : Lim (doesR r1 x n).1 := by
  obtain ⟨k1, k2, k3, _, _⟩ := fails_keep { r1 with pend := r1.pend ++ [(x, n)], dirs := r1.dirs ++ [toldE r1.now x n] }
  have en : r1.now = r.now := by unfold RSt.now; rw [e1]
  refine ⟨fun es he => ?_, ?_, ?_⟩
  · have he : es ∈ r1.dirs ++ [toldE r1.now x n] := by
      have he : es ∈ (failsR { r1 with pend := r1.pend ++ [(x, n)], dirs := r1.dirs ++ [toldE r1.now x n] }).1.dirs := he
      rw [k1] at he; exact he
    show _ ≤ (failsR _).1.count
    rw [k3]
    show (es.length : Int) ≤ r1.count + 1
    rcases List.mem_append.1 he with he | he
    · rw [e1] at he; have := h.dl es he; omega
    · simp only [List.mem_singleton] at he
      subst he
      have := toldE_len r1.now x n
      rw [en] at this ⊢
      have := now_len h
      omega
  · show ((failsR _).1.files.length : Int) ≤ (failsR _).1.count
    rw [k2, k3]
    show (r1.files.length : Int) ≤ r1.count + 1
    omega
  · show ∀ d ∈ (failsR _).1.files, _
    rw [k2]; exact dt
theorem Lim.set {φ : Nat → Nat} {s' : St} {r r' : RSt} (h : Lim r) (h' : Sim8 φ s' r') (ok' : Ok s') {f : Nat} (hf : f ∈ s'.held) {d : Dt} (e1 : r'.dirs = r.dirs) (e2 : r'.files = r.files.set (φ f) d) (e3 : r.count ≤ r'.count) : Lim r' := by
  refine ⟨fun es he => by rw [e1] at he; have := h.dl es he; omega, by rw [e2, List.length_set]; have := h.fl; omega, fun d' hd' => ?_⟩
  have hg := h'.fil f hf
  rw [e2] at hd' hg
  rcases List.mem_or_eq_of_mem_set hd' with hd' | hd'
  · exact h.dt d' hd'
  · have hl := (List.getElem?_eq_some_iff.1 hg).1
    rw [List.length_set] at hl
    rw [List.getElem?_set_self hl] at hg
    simp only [Option.some.injEq] at hg
    subst hd'
    rw [hg]
    have h1 := dat_le ok' hf
    have h2 := ok'.room
    exact ⟨ok'.syn f hf, by simp only; omega, ok'.byt f hf⟩
theorem Lim.create {r : RSt} (h : Lim r) (n : Nm) : Lim (createR r n).1 := by
  unfold createR
  split
  · exact h
  · split
    · exact h
    · refine h.does (r1 := { r with files := r.files ++ [([], 0)] }) rfl ?_ rfl ?_ _ n
      · have := h.fl
        show ((r.files ++ [(([], 0) : Dt)]).length : Int) ≤ r.count + 1
        rw [List.length_append]
        simp only [List.length_singleton]
        omega
      · intro d hd
        rcases List.mem_append.1 hd with hd | hd
        · exact h.dt d hd
        · simp only [List.mem_singleton] at hd
          subst hd
          exact ⟨Nat.le_refl _, by simp, fun y hy => by simp at hy⟩
theorem Lim.remove {r : RSt} (h : Lim r) (n : Nm) : Lim (removeR r n).1 := by
  unfold removeR
  split
  · exact h
  · split
    · exact h
    · exact h.does rfl (by have := h.fl; omega) rfl h.dt _ _
theorem Lim.rename {r : RSt} (h : Lim r) (n m : Nm) : Lim (renameR r n m).1 := by
  unfold renameR
  split
  · exact h
  · split
    · exact h
    · split
      · exact h
      · exact h.does rfl (by have := h.fl; omega) rfl h.dt _ _
theorem Lim.syncDir {r : RSt} (h : Lim r) : Lim (syncDirR r).1 := by
  obtain ⟨k1, k2, k3, _, _⟩ := fails_keep r
  unfold syncDirR
  split
  · exact h
  · split
    · exact h.same k1 k2 (by rw [k3]; omega)
    · refine ⟨fun es he => ?_, ?_, ?_⟩
      · simp only [List.mem_singleton] at he
        subst he
        show _ ≤ (failsR r).1.count
        have := now_len h
        rw [k3]; omega
      · show ((failsR r).1.files.length : Int) ≤ (failsR r).1.count
        have := h.fl
        rw [k2, k3]; omega
      · show ∀ d ∈ (failsR r).1.files, _
        rw [k2]; exact h.dt
theorem Lim.arm {r : RSt} (h : Lim r) (k : Int) : Lim (armR r k).1 := by
  unfold armR
  split
  · exact h
  · split
    · exact h
    · exact h.same rfl rfl (Int.le_refl _)
theorem Lim.append {φ : Nat → Nat} {s : St} {r : RSt} (h : Lim r) (hs : Sim8 φ s r) (ok : Ok s) (n : Nm) {bs : List Int} (hb : Byt bs) : Lim (appendR r n bs).1 := by
  have h' := (hs.append ok n bs).1
  have ok' := append_ok ok n hb
  have hl := hs.now.1.look n
  unfold appendR at h' ⊢
  by_cases c0 : beginR r n ≠ 0
  · rw [if_pos c0]; exact h
  · rw [if_neg c0] at h' ⊢
    rw [hl] at h' ⊢
    cases hd : s.now n with
    | none => exact h
    | some f =>
      rw [hd] at h'
      simp only [Option.map_some] at h' ⊢
      by_cases c1 : r.most < heldR r + bs.length
      · rw [if_pos c1]; exact h
      · rw [if_neg c1] at h' ⊢
        obtain ⟨k1, k2, k3, _, _⟩ := fails_keep { r with files := r.files.set (φ f) ((fileR r (φ f)).1 ++ bs, (fileR r (φ f)).2) }
        refine h.set h' ok' (f := f) ?_ k1 k2 (by show r.count ≤ (failsR _).1.count; rw [k3]; show r.count ≤ r.count + 1; omega)
        have hf := ok.nowH _ _ hd
        have eh : (appendS s n bs).1.held = s.held := by
          unfold appendS
          split
          · split
            · rfl
            · unfold countS; split <;> (try split) <;> rfl
          · rfl
        rw [eh]; exact hf
theorem Lim.sync {φ : Nat → Nat} {s : St} {r : RSt} (h : Lim r) (hs : Sim8 φ s r) (ok : Ok s) (n : Nm) : Lim (syncR r n).1 := by
  have hl := hs.now.1.look n
  obtain ⟨k1, k2, k3, _, _⟩ := fails_keep r
  unfold syncR
  by_cases c0 : beginR r n ≠ 0
  · rw [if_pos c0]; exact h
  · rw [if_neg c0, hl]
    cases hd : s.now n with
    | none => exact h
    | some f =>
      simp only [Option.map_some]
      have hf := ok.nowH _ _ hd
      by_cases c1 : (failsR r).2 = true
      · rw [if_pos c1]; exact h.same k1 k2 (by rw [k3]; omega)
      · rw [if_neg c1]
        refine ⟨fun es he => ?_, ?_, fun d hd' => ?_⟩
        · have he : es ∈ r.dirs := by rw [← k1]; exact he
          show _ ≤ (failsR r).1.count
          have := h.dl es he
          rw [k3]; omega
        · show (((r.files.set (φ f) ((fileR r (φ f)).1, (fileR r (φ f)).1.length)).length : Nat) : Int) ≤ (failsR r).1.count
          have := h.fl
          rw [List.length_set, k3]; omega
        · rcases List.mem_or_eq_of_mem_set (show d ∈ r.files.set (φ f) ((fileR r (φ f)).1, (fileR r (φ f)).1.length) from hd') with hd' | hd'
          · exact h.dt d hd'
          · subst hd'
            rw [hs.file hf]
            have h1 := dat_le ok hf
            have h2 := ok.room
            exact ⟨Nat.le_refl _, by simp only; omega, ok.byt f hf⟩
theorem rotD_byt {d : List Int} (hb : Byt d) {a : Nat} {x : Int} : Byt (rotD d a x) := by
  have key : ∀ z w : Int, 0 ≤ ibits .xor .u8 z w ∧ ibits .xor .u8 z w < 256 := fun z w => by
    have k2 : ∀ z : Int, 0 ≤ IntKind.u8.wrap z ∧ IntKind.u8.wrap z < 256 := fun z => by
      simp [IntKind.wrap, IntKind.bits, IntKind.signed]
      omega
    unfold ibits
    exact k2 _
  intro y hy
  unfold rotD at hy
  rcases List.mem_or_eq_of_mem_set hy with hy | rfl
  · exact hb y hy
  · exact key _ _
theorem rot_held (s : St) (n : Nm) (a x : Int) : (rotS s n a x).1.held = s.held := by
  unfold rotS
  split
  · split
    · rfl
    · split <;> rfl
  · rfl
theorem rot_ok {s : St} (ok : Ok s) (n : Nm) (a x : Int) : Ok (rotS s n a x).1 := by
  unfold rotS
  split
  · split
    · exact ok
    · rename_i f hf
      have hfh := ok.nowH _ _ hf
      split
      · exact ok
      · rename_i hc
        have hlen : (rotD (s.dat f) a.toNat x).length = (s.dat f).length := by unfold rotD; exact List.length_set
        refine ⟨ok.room, ok.nowH, ok.lastH, ok.pendH, ok.nowI, ok.lastI, ok.nowN, ok.lastN, ok.pendN, ok.nd, fun g hg => ?_, fun g hg => ?_, ?_, ok.fuse, ok.hlen, ok.plen⟩
        · simp only [setF]
          split
          · rename_i e; subst e; rw [hlen]; exact ok.syn g hg
          · exact ok.syn g hg
        · simp only [setF]
          split
          · rename_i e; subst e
            exact rotD_byt (ok.byt g hg)
          · exact ok.byt g hg
        · have h1 := sum_set ok hfh (rotD (s.dat f) a.toNat x)
          have h2 := ok.sum
          rw [h1, hlen]
          show _ ≤ s.room
          omega
  · exact ok
theorem Lim.rot {φ : Nat → Nat} {s : St} {r : RSt} (h : Lim r) (hs : Sim8 φ s r) (ok : Ok s) (n : Nm) (a x : Int) : Lim (rotR r n a x).1 := by
  have h' := (hs.rot ok n a x).1
  have hl := hs.now.1.look n
  unfold rotR at h' ⊢
  by_cases c0 : isNm n = false
  · rw [if_pos c0]; exact h
  · rw [if_neg c0] at h' ⊢
    rw [hl] at h' ⊢
    cases hd : s.now n with
    | none => exact h
    | some f =>
      rw [hd] at h'
      simp only [Option.map_some] at h' ⊢
      split
      · exact h
      · rename_i c1
        rw [if_neg c1] at h'
        exact h.set h' (rot_ok ok n a x) (f := f) (by rw [rot_held]; exact ok.nowH _ _ hd) rfl rfl (Int.le_refl _)
theorem Lim.crash {φ : Nat → Nat} {s : St} {r : RSt} (hs : Sim8 φ s r) (h : Lim r) (ok : Ok s) (dir : Int) (cuts : List Int) : Lim (crashR r dir cuts) := by
  have hd := V.Sim8.left hs ok dir
  have okn := now_ok ok dir
  have hlen := names_len hd.names okn.nowI okn.nowH
  rw [List.length_map] at hlen
  have hops := ok.hlen
  have hc := hs.cnt
  have hle : ((leftD r dir).length : Int) ≤ r.count := by
    have : ((leftD r dir).length : Int) ≤ s.held.length := by
      have : (leftD r dir).length ≤ s.held.length := hlen
      omega
    omega
  have hl : (leftR r dir cuts).length = (leftD r dir).length := by unfold leftR; simp
  refine ⟨fun es he => ?_, ?_, fun d hd' => ?_⟩
  · simp only [crashR, List.mem_singleton] at he
    subst he
    rw [crashD_len, hl]; exact hle
  · show ((crashF (leftR r dir cuts)).length : Int) ≤ r.count
    unfold crashF
    rw [List.length_map, hl]; exact hle
  · obtain ⟨p, hp, rfl⟩ := List.mem_map.1 (show d ∈ (leftR r dir cuts).map fun p => (p.2, p.2.length) from hd')
    obtain ⟨k, hk⟩ := List.mem_iff_getElem?.1 hp
    rw [leftR_get] at hk
    obtain ⟨e, he, rfl⟩ := Option.map_eq_some_iff.1 hk
    obtain ⟨f, hf1, hf2⟩ := (hd.mem e.1 e.2).1 (List.mem_of_getElem? he)
    have hf := okn.nowH _ _ hf1
    have h1 := dat_le ok hf
    have h2 := ok.room
    refine ⟨Nat.le_refl _, ?_, fun y hy => ?_⟩
    · simp only [leftF]
      rw [hf2, hs.file hf, List.length_take]
      simp only
      omega
    · simp only [leftF] at hy
      rw [hf2, hs.file hf] at hy
      exact ok.byt f hf y (List.mem_of_mem_take hy)
theorem _root_.Go.V.Sim8.ok {φ : Nat → Nat} {s : St} {r : RSt} (h : Sim8 φ s r) (ok : Ok s) (hl : Lim r) (hn : s.ops < 1000000000000) : OkR r := by
  have hd := h.now.2
  have hc := h.cnt
  have hp := ok.plen
  have hf := hl.fl
  have hx : ∀ f ∈ s.held, φ f < r.files.length := fun f hf => (List.getElem?_eq_some_iff.1 (h.fil f hf)).1
  refine ⟨by rw [h.arm]; exact ok.fuse, ⟨by omega, by omega⟩, by omega, by omega, fun es he => by have := hl.dl es he; omega, by rw [h.pend, List.length_map]; omega, by omega, fun es he e hee => ?_, fun p hp => ?_, hl.dt⟩
  · obtain ⟨Ds, h1, h2, h3, h4, h5, h6⟩ := h.dirs
    obtain ⟨i, hi⟩ := List.mem_iff_getElem?.1 he
    obtain ⟨D, hD, hdl⟩ := All2.get h4 hi
    obtain ⟨f, hf1, hf2⟩ := (hdl.mem e.1 e.2).1 hee
    rw [hf2]
    exact hx f (h5 D (List.mem_of_getElem? hD) _ f hf1)
  · rw [h.pend] at hp
    obtain ⟨q, hq, rfl⟩ := List.mem_map.1 hp
    exact hx _ (ok.pendH q hq)
theorem bit_zero (i : Nat) : bitI 0 i = false := by unfold bitI; simp
theorem afterD_zero : ∀ (l : List (Nat × Nm)) (i : Nat) (D : Dir), afterD D 0 l i = D
  | [], i, D => rfl
  | p :: l, i, D => by
    show afterD (if bitI 0 i then moveD D p.1 p.2 else D) 0 l (i + 1) = D
    rw [bit_zero, if_neg Bool.false_ne_true]
    exact afterD_zero l (i + 1) D
theorem _root_.Go.V.Sim8.tells {φ : Nat → Nat} {s : St} {r : RSt} (h : Sim8 φ s r) (ok : Ok s) : Tells s r := by
  refine ⟨fun ns hns => ?_, fun ns hns => ?_, (h.held ok).symm, h.most.symm, by rw [h.now.2]; omega, h.cnt.symm, h.off.symm⟩
  · unfold namesR
    rw [h.off]
    cases ho : s.off with
    | true => rw [ho] at hns; simpa using hns
    | false =>
      rw [ho] at hns
      simp only [Bool.false_eq_true, if_false] at hns ⊢
      exact (h.now.1.is hns).symm
  · have hd := V.Sim8.left h ok 0
    rw [afterD_zero] at hd
    have hm := hd.is hns
    apply List.ext_getElem?
    intro k
    rw [leftR_get, ← hm, List.getElem?_map, List.getElem?_map]
    cases he : (leftD r 0)[k]? with
    | none => rfl
    | some e =>
      obtain ⟨f, hf1, hf2⟩ := (hd.mem e.1 e.2).1 (List.mem_of_getElem? he)
      simp only [Option.map_some]
      congr 1
      unfold leftF V.lastD
      rw [hf1, hf2, h.file (ok.lastH _ _ hf1)]
      simp only [moreR, List.length_nil, Nat.not_lt_zero, if_false, Nat.add_zero]
end Go.Proofs.Ytmkheogjnlmkdaa
