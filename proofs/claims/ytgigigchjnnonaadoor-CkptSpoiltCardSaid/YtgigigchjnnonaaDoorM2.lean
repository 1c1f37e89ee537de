/- The laws' put: a file written by the program. Publish, plainly. A Publish with the power failing at any operation, and the crash behind it: plainly. The chapter's example, walked. What the laws of files begin with: arguments cut, slices away from a file system. Checkpoints as files, plainly: what is encoded is decoded, how long it is, which checkpoint fits. Publish: its steps. DERIVED: THE SHELF's CONTRACTS AT THIS DUMP, IN PLAIN WORDS (tools/lay-plain.mjs out of 'TrydLayVLayN.lean', which tools/lay-shelf.mjs wrote): THE SAME DECLARATIONS UNDER THE SAME NAMES: 'import', 'namespace', 'open', 'def', 'theorem' AND NOTHING ELSE: no command of the shelf's: FOR A HAND-IN. Each laying: the table of numbers ('.._ren') and one theorem, a field a fact of the dump's own or the kernel's comparison; each contract: ONE APPLICATION. The directory made to last. -/
import Derived.Test.YtgigigchjnnonaaDoorM1
import Derived.Test.YtgigigchjnnonaaDoorVLoad
import Derived.Shelf.SlMaps.Clone
import Derived.Ground.SlmcProg
import Derived.Test.YtgigigchjnnonaaDoorProg
import Derived.Test.YtgigigchjnnonaaDoorVFsD
set_option linter.unusedSimpArgs false
set_option linter.unusedVariables false
set_option maxRecDepth 20000
namespace Go.Proofs.YtgigigchjnnonaaDoor
open Go Go.V

-- 47: pith/files.Begin
-- 49: (*pith/files.Writer).Put
-- 51: (*pith/files.Writer).End
-- 13: (*pith/fs.FS).Size


-- 42: []uint8
-- 49: [][]uint8
-- 5: uint8
/-- Bytes that stand away from a file system. -/
def Aw (H : Heap) (F : Nat → Prop) (K : Nat) (u : Value) (p : List Int) : Prop := Ints H 5 .u8 u p ∧ (p = [] ∨ ∀ g, blk u = some g → ¬ F g ∧ g < K)
structure AwL (H : Heap) (F : Nat → Prop) (K : Nat) (v : Value) (vs : List Value) (l : List (List Int)) : Prop where
  sl : Sl H 42 1 v vs
  aw : vs = [] ∨ ∀ g, blk v = some g → ¬ F g ∧ g < K
  all : All2 (fun u p => Aw H F K u p) vs l
theorem AwL.lists {H : Heap} {F : Nat → Prop} {K : Nat} {v : Value} {vs : List Value} {l : List (List Int)} (h : AwL H F K v vs l) : Lists H 42 5 v l := ⟨vs, h.sl, h.all.mono fun _ _ h => h.1⟩
theorem Aw.keep {X F F' : Nat → Prop} {H H' : Heap} {K : Nat} {u : Value} {p : List Int} (h : Aw H F K u p) (cx : ChX X F F' H H') (hX : ∀ g, X g → K ≤ g) (hK : K ≤ H.size) : Aw H' F' K u p := by
  refine ⟨cx.ints h.1 (h.2.imp id fun h g hg => ⟨(h g hg).1, fun e => ?_⟩), h.2.imp id fun h g hg => ⟨cx.not (by have := (h g hg).2; omega) (h g hg).1, (h g hg).2⟩⟩
  have := hX g e
  have := (h g hg).2
  omega
theorem AwL.keep {X F F' : Nat → Prop} {H H' : Heap} {K : Nat} {v : Value} {vs : List Value} {l : List (List Int)} (h : AwL H F K v vs l) (cx : ChX X F F' H H') (hX : ∀ g, X g → K ≤ g) (hK : K ≤ H.size) : AwL H' F' K v vs l := by
  refine ⟨?_, h.aw.imp id fun h g hg => ⟨cx.not (by have := (h g hg).2; omega) (h g hg).1, (h g hg).2⟩, h.all.mono fun _ _ h => h.keep cx hX hK⟩
  rcases h.aw with hv | hv
  · have hs := h.sl
    obtain ⟨a, len, cap, rfl, hc, hl, hd⟩ := hs
    refine ⟨a, len, cap, rfl, hc, hl, .inl ?_⟩
    rw [hv] at hl; simp at hl; omega
  · exact cx.sl h.sl fun g hg => ⟨(hv g hg).1, fun e => by have := hX g e; have := (hv g hg).2; omega⟩
/-- A file system in memory where nothing fails. -/
structure Stg (H : Heap) (F : Nat → Prop) (b : Nat) (s : St) : Prop where
  fs : FsH H F b s
  pc : Peace s
  f0 : ¬ F 0
  crc : CrcTab H
theorem rowB_len {r : List (Int × List Int)} (h : ∀ f ∈ r, f.2.length ≤ 1024) : (rowB r).length ≤ r.length * 1036 := by
  induction r with
  | nil => simp [rowB]
  | cons f r ih =>
    have h1 := h f List.mem_cons_self
    have h2 := ih fun y hy => h y (List.mem_cons_of_mem _ hy)
    obtain ⟨k, p⟩ := f
    rw [rowB_cons, List.length_append, encL_len]
    simp only [List.length_cons, Nat.succ_mul] at h1 ⊢
    omega
def rowI (hd : List Int) (l : List (List Int)) : List (Int × List Int) := (1, hd) :: l.map (fun p => (2, p))
theorem rowI_snoc (hd : List Int) (l : List (List Int)) (p : List Int) : rowI hd (l ++ [p]) = rowI hd l ++ [(2, p)] := by simp [rowI]
theorem rowI_len {hd : List Int} {l : List (List Int)} (h1 : hd.length ≤ 1024) (h2 : ∀ x ∈ l, x.length ≤ 1024) : (rowB (rowI hd l)).length ≤ (l.length + 1) * 1036 := by
  have := rowB_len (r := rowI hd l) (by
    intro f hf
    rcases List.mem_cons.1 hf with rfl | hf
    · exact h1
    · obtain ⟨p, hp, rfl⟩ := List.mem_map.1 hf
      exact h2 p hp)
  simpa [rowI] using this
/-- The writer behind its head and payloads. -/
def wrI (n : Nm) (hd : List Int) (l : List (List Int)) : WrS := { name := n, size := (rowB (rowI hd l)).length, sum := crcW 0#32 (hd ++ l.flatten), data := l.length, over := false }
/-- The state behind a Create, and so many frames. -/
def stI (s : St) (n : Nm) (f : Nat) (hd : List Int) (l : List (List Int)) : St :=
  { s with ops := s.ops + (2 + l.length), now := moveD s.now f n, pend := s.pend ++ [(f, n)], held := s.held ++ [f], dat := setF s.dat f (rowB (rowI hd l)), syn := setF s.syn f 0 }
theorem setF_setF {α : Type} (f : Nat → α) (x : Nat) (a b : α) : setF (setF f x a) x b = setF f x b := by
  funext y; unfold setF; split <;> rfl
theorem heldS_ops (s : St) (n : Int) : heldS { s with ops := n } = heldS s := rfl
/-- Begin, where nothing fails. -/
theorem begin_peace {s : St} (h : Peace s) {n : Nm} {f : Nat} (hn : isNm n = true) (hx : s.now n = none) (hf : f ∉ s.held) {hd : List Int} (hl : hd.length ≤ 1024) (hb : Byt hd) (hr : heldS s + (12 + hd.length) ≤ s.room) :
    beginW s n f hd = (stI s n f hd [], wrI n hd [], 0) ∧ Peace (stI s n f hd []) ∧ heldS (stI s n f hd []) = heldS s + (rowB (rowI hd [])).length ∧ (stI s n f hd []).now n = some f := by
  have hc := create_calm h hn (x := f) hx
  have hok := create_ok h.ok n hf
  have hp1 : Peace (createS s n f).1 := ⟨hok, by rw [hc]; exact h.on, by rw [hc]; exact h.arm⟩
  have hh : heldS (createS s n f).1 = heldS s := by
    rw [hc]
    unfold heldS
    simp only [List.map_append, List.sum_append, List.map_cons, List.map_nil, List.sum_cons, List.sum_nil, setF_same, List.length_nil]
    have : (s.held.map fun g => ((setF s.dat f [] g).length : Int)) = s.held.map fun g => ((s.dat g).length : Int) := by
      apply List.map_congr_left
      intro g hg
      rw [setF_ne _ _ _ (by rintro rfl; exact hf hg)]
    rw [this]; simp
  have hnow : (createS s n f).1.now n = some f := by rw [hc]; exact move_same (isNm_ne hn)
  obtain ⟨s', e1, e2, e3, e4, e5⟩ := put_calm (w := newW n) (x := f) (r := []) hp1 ⟨hnow, by rw [hc]; simp only; rw [setF_same]; rfl, rfl⟩ (k := 1) (p := hd) (by omega) hl hb (by rw [hh, hc]; simp only; omega)
  have es : s' = stI s n f hd [] := by
    rw [e2, hc]
    unfold stI rowI
    simp only [setF_setF, List.nil_append, List.map_nil, List.length_nil]
    congr 1
    omega
  have ew : ({ newW n with size := (newW n).size + (12 + (hd.length : Int)), sum := if (1 : Int) = 3 then (newW n).sum else crcW (newW n).sum hd } : WrS) = wrI n hd [] := by
    unfold wrI newW rowI
    simp only [List.map_nil, List.flatten_nil, List.append_nil, List.length_nil]
    congr 1
    · simp [rowB, encL_len]
  subst es
  refine ⟨?_, e3, ?_, e5.now⟩
  · unfold beginW
    rw [if_neg (by omega), if_neg (by rw [hc]; simp), e1, ew]
  · rw [e4, hh]
    simp [rowI, rowB, encL_len]
theorem stI_held {s : St} {n : Nm} {f : Nat} (hf : f ∉ s.held) (hd : List Int) (l : List (List Int)) : heldS (stI s n f hd l) = heldS s + (rowB (rowI hd l)).length := by
  unfold heldS stI
  simp only [List.map_append, List.sum_append, List.map_cons, List.map_nil, List.sum_cons, List.sum_nil, setF_same]
  have : (s.held.map fun g => ((setF s.dat f (rowB (rowI hd l)) g).length : Int)) = s.held.map fun g => ((s.dat g).length : Int) := by
    apply List.map_congr_left
    intro g hg
    rw [setF_ne _ _ _ (by rintro rfl; exact hf hg)]
  rw [this]; simp
/-- In the midst of a file. -/
structure InS (s : St) (n : Nm) (f : Nat) (hd : List Int) (l : List (List Int)) : Prop where
  pc : Peace (stI s n f hd l)
  now : (stI s n f hd l).now n = some f
theorem putW_peace {s : St} {n : Nm} {f : Nat} {hd : List Int} {l : List (List Int)} (h : InS s n f hd l) (hf : f ∉ s.held) {p : List Int} (hp : p.length ≤ 1024) (hb : Byt p) (hr : heldS s + (rowB (rowI hd l)).length + (12 + p.length) ≤ s.room) :
    putW (stI s n f hd l) (wrI n hd l) p = (stI s n f hd (l ++ [p]), wrI n hd (l ++ [p]), 0) ∧ InS s n f hd (l ++ [p]) := by
  have hh := stI_held (n := n) hf hd l
  have hroom : (stI s n f hd l).room = s.room := rfl
  obtain ⟨s', e1, e2, e3, e4, e5⟩ := put_calm (w := wrI n hd l) (x := f) (r := rowI hd l) h.pc ⟨h.now, by unfold stI; simp only; rw [setF_same], rfl⟩ (k := 2) (p := p) (by omega) hp hb (by rw [hh, hroom]; omega)
  have es : s' = stI s n f hd (l ++ [p]) := by
    rw [e2, ← rowI_snoc]
    unfold stI
    simp only [setF_setF, List.length_append, List.length_cons, List.length_nil]
    congr 1
    omega
  subst es
  refine ⟨?_, e3, e5.now⟩
  unfold putW
  rw [if_neg (by simp [wrI]), e1]
  simp only [if_true]
  congr 1
  congr 1
  unfold wrI
  simp only [rowI_snoc, rowB_snoc, List.length_append, encL_len, List.flatten_append, List.flatten_cons, List.flatten_nil, List.append_nil, List.length_cons, List.length_nil]
  rw [if_neg (by decide), ← List.append_assoc, crcW_app]
  have ez : ((rowB (rowI hd l)).length : Int) + (12 + (p.length : Int)) = (((rowB (rowI hd l)).length + (12 + p.length) : Nat) : Int) := by omega
  rw [ez, crcW_app _ (hd ++ l.flatten), crcW_app _ hd]
  rfl
/-- The state behind a file written whole. -/
def doneS (s : St) (n : Nm) (f : Nat) (hd : List Int) (l : List (List Int)) (sy : Bool) : St :=
  { s with ops := s.ops + (if sy then 4 + l.length else 3 + l.length), now := moveD s.now f n, pend := s.pend ++ [(f, n)], held := s.held ++ [f], dat := setF s.dat f (rowB (fileR hd l)), syn := setF s.syn f (if sy then (rowB (fileR hd l)).length else 0) }
theorem fileR_eq (hd : List Int) (l : List (List Int)) : fileR hd l = rowI hd l ++ [(3, be4 l.length)] := rfl
theorem file_len {hd : List Int} {l : List (List Int)} (h1 : hd.length ≤ 1024) (h2 : ∀ x ∈ l, x.length ≤ 1024) : (rowB (fileR hd l)).length = (rowB (rowI hd l)).length + 16 ∧ (rowB (fileR hd l)).length ≤ (l.length + 1) * 1036 + 16 := by
  have := rowI_len h1 h2
  rw [fileR_eq, rowB_snoc, List.length_append, encL_len]
  have : (be4 (l.length : Int)).length = 4 := rfl
  omega
theorem doneS_held {s : St} {n : Nm} {f : Nat} (hf : f ∉ s.held) (hd : List Int) (l : List (List Int)) (sy : Bool) : heldS (doneS s n f hd l sy) = heldS s + (rowB (fileR hd l)).length := by
  unfold heldS doneS
  simp only [List.map_append, List.sum_append, List.map_cons, List.map_nil, List.sum_cons, List.sum_nil, setF_same]
  have : (s.held.map fun g => ((setF s.dat f (rowB (fileR hd l)) g).length : Int)) = s.held.map fun g => ((s.dat g).length : Int) := by
    apply List.map_congr_left
    intro g hg
    rw [setF_ne _ _ _ (by rintro rfl; exact hf hg)]
  rw [this]; simp
theorem endW_peace {s : St} {n : Nm} {f : Nat} {hd : List Int} {l : List (List Int)} (h : InS s n f hd l) (hf : f ∉ s.held) (sy : Bool) (hr : heldS s + (rowB (rowI hd l)).length + 16 ≤ s.room) :
    endW (stI s n f hd l) (wrI n hd l) sy = (doneS s n f hd l sy, { wrI n hd l with size := (rowB (fileR hd l)).length, over := true }, ((rowB (fileR hd l)).length : Int), crcW 0#32 (hd ++ l.flatten), 0) ∧ Peace (doneS s n f hd l sy) ∧ (doneS s n f hd l sy).now n = some f := by
  have hh := stI_held (n := n) hf hd l
  have hroom : (stI s n f hd l).room = s.room := rfl
  have h4 : (be4 (l.length : Int)).length = 4 := rfl
  obtain ⟨s', e1, e2, e3, e4, e5⟩ := put_calm (w := wrI n hd l) (x := f) (r := rowI hd l) h.pc ⟨h.now, by unfold stI; simp only; rw [setF_same], rfl⟩ (k := 3) (p := be4 l.length) (by omega) (by omega) (be4_byt _) (by rw [hh, hroom, h4]; omega)
  have es : s' = doneS s n f hd l false := by
    rw [e2]
    unfold stI doneS
    simp only [setF_setF, Bool.false_eq_true, if_false]
    congr 1
    omega
  have esz : (wrI n hd l).size + (12 + ((be4 (l.length : Int)).length : Int)) = (rowB (fileR hd l)).length := by
    rw [fileR_eq, rowB_snoc, List.length_append, encL_len]
    show ((rowB (rowI hd l)).length : Int) + _ = _
    omega
  subst es
  have e5n : (doneS s n f hd l false).now n = some f := e5.now
  have edat : (doneS s n f hd l false).dat f = rowB (fileR hd l) := setF_same _ _ _
  have hdw : (wrI n hd l).data = l.length := rfl
  have hsw : (wrI n hd l).sum = crcW 0#32 (hd ++ l.flatten) := rfl
  cases sy with
  | false =>
    refine ⟨?_, e3, e5n⟩
    unfold endW
    rw [if_neg (by simp [wrI]), hdw, e1, esz]
    simp [hsw]
  | true =>
    have hsy := sync_calm e3 e5n
    have hok := sync_ok e3.ok n
    rw [hsy] at hok
    have hd2 : ({ doneS s n f hd l false with ops := (doneS s n f hd l false).ops + 1, syn := setF (doneS s n f hd l false).syn f ((doneS s n f hd l false).dat f).length } : St) = doneS s n f hd l true := by
      rw [edat]
      unfold doneS
      simp only [setF_setF, Bool.false_eq_true, if_false, if_true]
      congr 1
      omega
    rw [hd2] at hsy hok
    refine ⟨?_, ⟨hok, e3.on, e3.arm⟩, e5n⟩
    unfold endW
    rw [if_neg (by simp [wrI]), hdw, e1, esz]
    simp only [and_self, if_true]
    rw [show (wrI n hd l).name = n from rfl, hsy]
    simp [hsw]
theorem AwL.form {H : Heap} {F : Nat → Prop} {K : Nat} {v : Value} {vs : List Value} {l : List (List Int)} (h : AwL H F K v vs l) : ∃ a cap, v = .slice a l.length cap := h.lists.form
theorem AwL.at {H : Heap} {F : Nat → Prop} {K : Nat} {a : Option Addr} {len cap : Nat} {vs : List Value} {l : List (List Int)} (h : AwL H F K (.slice a len cap) vs l) {i : Nat} (hi : i < l.length) :
    ∃ b o, a = some ⟨b, o, none⟩ ∧ ∃ u, hget H b (o + i) = some u ∧ Aw H F K u (l.getD i []) := by
  have hl := Sl.length h.sl
  have h2 := h.all.length
  obtain ⟨b, o, rfl⟩ := Sl.at h.sl (by omega)
  obtain ⟨u, hu, ha⟩ := h.all.get (List.getElem?_eq_getElem hi)
  refine ⟨b, o, rfl, u, ?_, ?_⟩
  · rw [Sl.get h.sl (by omega)]; exact hu
  · rw [List.getD_eq_getElem?_getD, List.getElem?_eq_getElem hi]; exact ha
theorem take_getD {α : Type} {l : List α} {i : Nat} (hi : i < l.length) (d : α) : l.take (i + 1) = l.take i ++ [l.getD i d] := by
  rw [List.take_succ_eq_append_getElem hi, List.getD_eq_getElem?_getD, List.getElem?_eq_getElem hi]; rfl
end Go.Proofs.YtgigigchjnnonaaDoor
namespace Go.Proofs.YtgigigchjnnonaaDoor
open Go Go.V
def tn (n : Nm) : Nm := ⟨#[116, 46]⟩ ++ n
def thereS (s : St) (n : Nm) : Bool := decide ((sizeS s n).2 = 0)
/-- What follows a step that answered an error. -/
def failS (s : St) (t : Nm) (was : Bool) (e : Int) : St × Int :=
  if e ≠ 81 ∧ was = false ∧ thereS s t = true then ((removeS s t).1, if (removeS s t).2 = 81 then 81 else e) else (s, e)
structure Pb where
  s : St
  w : WrS
/-- The step j of a Publish: Begin, a Put for each of l, End, Rename, SyncDir. -/
noncomputable def stepP (n : Nm) (hd : List Int) (l : List (List Int)) (f j : Nat) (p : Pb) : Pb × Int :=
  if j = 0 then (⟨(beginW p.s (tn n) f hd).1, (beginW p.s (tn n) f hd).2.1⟩, (beginW p.s (tn n) f hd).2.2) else
  if j ≤ l.length then (⟨(putW p.s p.w (l.getD (j - 1) [])).1, (putW p.s p.w (l.getD (j - 1) [])).2.1⟩, (putW p.s p.w (l.getD (j - 1) [])).2.2) else
  if j = l.length + 1 then (⟨(endW p.s p.w true).1, (endW p.s p.w true).2.1⟩, (endW p.s p.w true).2.2.2.2) else
  if j = l.length + 2 then (⟨(renameS p.s (tn n) n).1, p.w⟩, (renameS p.s (tn n) n).2) else
  (⟨(syncDirS p.s).1, p.w⟩, (syncDirS p.s).2)
noncomputable def goP (n : Nm) (hd : List Int) (l : List (List Int)) (f : Nat) (was : Bool) : Nat → Nat → Pb → St × Int
  | 0, _, p => (p.s, 0)
  | k + 1, j, p => if (stepP n hd l f j p).2 = 0 then goP n hd l f was k (j + 1) (stepP n hd l f j p).1 else failS (stepP n hd l f j p).1.s (tn n) was (stepP n hd l f j p).2
noncomputable def pubS (s : St) (n : Nm) (hd : List Int) (l : List (List Int)) (f : Nat) : St × Int := goP n hd l f (thereS s (tn n)) (l.length + 4) 0 ⟨s, newW (tn n)⟩
theorem count_ops (s : St) : (countS s).1.ops = s.ops + 1 := by
  unfold countS; split
  · split <;> rfl
  · rfl
theorem sync_ops (s : St) (n : Nm) : (syncS s n).1.ops ≤ s.ops + 1 := by
  unfold syncS
  split
  · split
    · simp only [count_ops]; exact Int.le_refl _
    · rw [count_ops]; exact Int.le_refl _
  · simp only; omega
theorem rename_ops (s : St) (n m : Nm) : (renameS s n m).1.ops ≤ s.ops + 1 := by
  unfold renameS
  split
  · simp only; omega
  · split
    · simp only; omega
    · unfold pendS; rw [count_ops]; exact Int.le_refl _
theorem syncDir_ops (s : St) : (syncDirS s).1.ops ≤ s.ops + 1 := by
  unfold syncDirS
  split
  · simp only; omega
  · split
    · unfold settleS; rw [count_ops]; exact Int.le_refl _
    · rw [count_ops]; exact Int.le_refl _
theorem remove_ops (s : St) (n : Nm) : (removeS s n).1.ops ≤ s.ops + 1 := by
  unfold removeS
  split
  · unfold pendS; rw [count_ops]; exact Int.le_refl _
  · simp only; omega
theorem putW_ops (s : St) (x : WrS) (p : List Int) : (putW s x p).1.ops ≤ s.ops + 1 := by
  have := putS_ops s x 2 p
  unfold putW
  split
  · simp only; omega
  · split
    · exact this
    · exact this
theorem endW_ops (s : St) (x : WrS) (b : Bool) : (endW s x b).1.ops ≤ s.ops + 2 := by
  have h1 := putS_ops s x 3 (be4 x.data)
  unfold endW
  split
  · simp only; omega
  · simp only
    split
    · have h2 := sync_ops (putS s x 3 (be4 x.data)).1 x.name
      omega
    · simp only; omega
theorem begin_ops (s : St) (n : Nm) (f : Nat) (p : List Int) : (beginW s n f p).1.ops ≤ s.ops + 2 := by
  have h1 := create_ops s n f
  have h2 := putS_ops (createS s n f).1 (newW n) 1 p
  unfold beginW
  split
  · simp only; omega
  · split
    · simp only; omega
    · omega
theorem stepP_ops (n : Nm) (hd : List Int) (l : List (List Int)) (f j : Nat) (p : Pb) : (stepP n hd l f j p).1.s.ops ≤ p.s.ops + 2 := by
  unfold stepP
  split
  · exact begin_ops _ _ _ _
  · split
    · have := putW_ops p.s p.w (l.getD (j - 1) []); simp only; omega
    · split
      · exact endW_ops _ _ _
      · split
        · have := rename_ops p.s (tn n) n; simp only; omega
        · have := syncDir_ops p.s; simp only; omega
theorem putW_ok {s : St} (ok : Ok s) (x : WrS) {p : List Int} (hp : Byt p) : Ok (putW s x p).1 := by
  have := putS_ok ok x 2 hp
  unfold putW
  split
  · exact ok
  · split
    · exact this
    · exact this
theorem endW_ok {s : St} (ok : Ok s) (x : WrS) (b : Bool) : Ok (endW s x b).1 := by
  have h1 := putS_ok ok x 3 (be4_byt x.data)
  unfold endW
  split
  · exact ok
  · simp only
    split
    · exact sync_ok h1 _
    · exact h1
theorem begin_ok {s : St} (ok : Ok s) (n : Nm) {f : Nat} (hf : f ∉ s.held) {p : List Int} (hp : Byt p) : Ok (beginW s n f p).1 := by
  unfold beginW
  split
  · exact ok
  · split
    · exact create_ok ok n hf
    · exact putS_ok (create_ok ok n hf) _ 1 hp
theorem stepP_ok {n : Nm} {hd : List Int} {l : List (List Int)} {f j : Nat} {p : Pb} (ok : Ok p.s) (hf : j = 0 → f ∉ p.s.held) (hb : Byt hd) (hl : ∀ x ∈ l, Byt x) : Ok (stepP n hd l f j p).1.s := by
  unfold stepP
  split
  · rename_i h; exact begin_ok ok _ (hf h) hb
  · split
    · rename_i h1 h2; exact putW_ok ok _ (hl _ (mem_getD (by omega) []))
    · split
      · exact endW_ok ok _ _
      · split
        · exact rename_ok ok _ _
        · exact syncDir_ok ok
theorem putS_size (s : St) (x : WrS) (k : Int) (p : List Int) : x.size ≤ (putS s x k p).2.1.size ∧ (putS s x k p).2.1.size ≤ x.size + 1036 := by
  unfold putS
  split
  · simp only; omega
  · rename_i h
    obtain ⟨_, h2, _⟩ := encO_eq (Classical.not_not.1 h)
    split
    · simp only; omega
    · simp only; omega
theorem putW_size (s : St) (x : WrS) (p : List Int) : x.size ≤ (putW s x p).2.1.size ∧ (putW s x p).2.1.size ≤ x.size + 1036 ∧ x.data ≤ (putW s x p).2.1.data ∧ (putW s x p).2.1.data ≤ x.data + 1 := by
  have h1 := putS_size s x 2 p
  have h2 := (putS_data s x 2 p).1
  unfold putW
  split
  · simp only; omega
  · split
    · simp only; omega
    · omega
theorem begin_size (s : St) (n : Nm) (f : Nat) (p : List Int) : 0 ≤ (beginW s n f p).2.1.size ∧ (beginW s n f p).2.1.size ≤ 1036 ∧ (beginW s n f p).2.1.data = 0 := by
  have h1 := putS_size (createS s n f).1 (newW n) 1 p
  have h2 := (putS_data (createS s n f).1 (newW n) 1 p).1
  have e1 : (newW n).size = 0 := rfl
  have e2 : (newW n).data = 0 := rfl
  unfold beginW
  split
  · simp only; omega
  · split
    · simp only; omega
    · omega
theorem fail_ops (s : St) (t : Nm) (was : Bool) (e : Int) : (failS s t was e).1.ops ≤ s.ops + 1 := by
  unfold failS
  split
  · exact remove_ops s t
  · simp only; omega
theorem goP_ops (n : Nm) (hd : List Int) (l : List (List Int)) (f : Nat) (was : Bool) : ∀ (k j : Nat) (p : Pb), (goP n hd l f was k j p).1.ops ≤ p.s.ops + 2 * k + 1
  | 0, j, p => by unfold goP; simp only; omega
  | k + 1, j, p => by
    have h1 := stepP_ops n hd l f j p
    unfold goP
    split
    · have := goP_ops n hd l f was k (j + 1) (stepP n hd l f j p).1
      omega
    · have := fail_ops (stepP n hd l f j p).1.s (tn n) was (stepP n hd l f j p).2
      omega
theorem pub_ops (s : St) (n : Nm) (hd : List Int) (l : List (List Int)) (f : Nat) : (pubS s n hd l f).1.ops ≤ s.ops + 2 * ((l.length + 4 : Nat) : Int) + 1 := goP_ops n hd l f _ _ _ _
end Go.Proofs.YtgigigchjnnonaaDoor
namespace Go.Proofs.YtgigigchjnnonaaDoor
open Go Go.V
/-- The power is still on; nothing is armed that was not. -/
structure Goes (s s' : St) : Prop where
  on : s'.off = false
  arm : s.fuse = 0 → s'.fuse = 0
theorem Goes.refl {s : St} (h : s.off = false) : Goes s s := ⟨h, fun e => e⟩
theorem count_cases {s0 s : St} (g : Goes s0 s) (h0 : 0 ≤ s0.fuse) (h1 : 0 ≤ s.fuse) : ((countS s).2 = 0 ∧ Goes s0 (countS s).1) ∨ (0 < s0.fuse ∧ (countS s).2 = 81) := by
  by_cases hf : 0 < s.fuse
  · have hs : 0 < s0.fuse := by
      rcases Int.lt_or_le 0 s0.fuse with e | e
      · exact e
      · have := g.arm (by omega); omega
    unfold countS
    rw [if_pos hf]
    split
    · exact .inr ⟨hs, rfl⟩
    · exact .inl ⟨rfl, g.on, fun e => by omega⟩
  · unfold countS
    rw [if_neg hf]
    exact .inl ⟨rfl, g.on, g.arm⟩
/-- A file of this call's own under the name t, so much of it written. -/
structure Wip (s s' : St) (t : Nm) (f : Nat) (R : List Int) (sy : Nat) : Prop where
  ok : Ok s'
  room : s'.room = s.room
  last : s'.last = s.last
  pend : s'.pend = s.pend ++ [(f, t)]
  now : s'.now = moveD s.now f t
  held : s'.held = s.held ++ [f]
  dat : s'.dat = setF s.dat f R
  syn : s'.syn = setF s.syn f sy
theorem Wip.get {s s' : St} {t : Nm} {f : Nat} {R : List Int} {sy : Nat} (w : Wip s s' t f R sy) (ht : isNm t = true) : s'.now t = some f := by rw [w.now]; exact move_same (isNm_ne ht)
theorem Wip.sum {s s' : St} {t : Nm} {f : Nat} {R : List Int} {sy : Nat} (w : Wip s s' t f R sy) (hf : f ∉ s.held) : heldS s' = heldS s + R.length := by
  unfold heldS
  rw [w.held, w.dat]
  simp only [List.map_append, List.sum_append, List.map_cons, List.map_nil, List.sum_cons, List.sum_nil, setF_same]
  have : (s.held.map fun g => ((setF s.dat f R g).length : Int)) = s.held.map fun g => ((s.dat g).length : Int) := by
    apply List.map_congr_left
    intro g hg
    rw [setF_ne _ _ _ (by rintro rfl; exact hf hg)]
  rw [this]; simp
theorem Goes.begin {s0 s : St} (g : Goes s0 s) {n : Nm} (hn : isNm n = true) : beginS s [n] = 0 := begin_calm g.on hn
theorem Goes.find {s0 s : St} (g : Goes s0 s) {n : Nm} (hn : isNm n = true) {x : Nat} (hx : s.now n = some x) : findS s n = (some x, 0) := by
  unfold findS
  rw [g.begin hn]
  simp [hx]
theorem create_wip {s : St} (ok : Ok s) (on : s.off = false) {t : Nm} {f : Nat} (ht : isNm t = true) (hx : s.now t = none) (hf : f ∉ s.held) :
    Wip s (createS s t f).1 t f [] 0 ∧ (((createS s t f).2 = 0 ∧ Goes s (createS s t f).1) ∨ (0 < s.fuse ∧ (createS s t f).2 = 81)) := by
  have hc : createS s t f = countS { addS s f with now := moveD s.now f t, pend := s.pend ++ [(f, t)] } := by
    unfold createS
    rw [begin_calm on ht, hx]
    simp only [ne_eq, not_true, if_false]
    rfl
  have hok := create_ok ok t hf
  rw [hc] at hok ⊢
  obtain ⟨c1, c2, c3, c4, c5, c6, c7, c8⟩ := count_same { addS s f with now := moveD s.now f t, pend := s.pend ++ [(f, t)] }
  exact ⟨⟨hok, c1, c3, c4, c2, c5, c6, c7⟩, count_cases (s0 := s) ⟨on, fun e => e⟩ ok.fuse.1 ok.fuse.1⟩
theorem append_wip {s s' : St} {t : Nm} {f : Nat} {R : List Int} {sy : Nat} (ok : Ok s) (w : Wip s s' t f R sy) (g : Goes s s') (ht : isNm t = true) (hf : f ∉ s.held) {b : List Int} (hb : Byt b) (hr : heldS s + R.length + b.length ≤ s.room) :
    Wip s (appendS s' t b).1 t f (R ++ b) sy ∧ (((appendS s' t b).2 = 0 ∧ Goes s (appendS s' t b).1) ∨ (0 < s.fuse ∧ (appendS s' t b).2 = 81)) := by
  have hsum := w.sum hf
  have hrm := w.room
  have hdf : s'.dat f = R := by rw [w.dat]; exact setF_same _ _ _
  have ha : appendS s' t b = countS { s' with dat := setF s'.dat f (R ++ b) } := by
    unfold appendS
    rw [g.find ht (w.get ht)]
    simp only
    rw [if_neg (by omega), hdf]
  have hok := append_ok w.ok t hb
  rw [ha] at hok ⊢
  obtain ⟨c1, c2, c3, c4, c5, c6, c7, c8⟩ := count_same { s' with dat := setF s'.dat f (R ++ b) }
  refine ⟨⟨hok, c1.trans w.room, c3.trans w.last, c4.trans w.pend, c2.trans w.now, c5.trans w.held, ?_, c7.trans w.syn⟩, count_cases (s0 := s) ⟨g.on, g.arm⟩ ok.fuse.1 w.ok.fuse.1⟩
  rw [c6]
  simp only
  rw [w.dat, setF_setF]
theorem sync_wip {s s' : St} {t : Nm} {f : Nat} {R : List Int} {sy : Nat} (ok : Ok s) (w : Wip s s' t f R sy) (g : Goes s s') (ht : isNm t = true) :
    ((syncS s' t).2 = 0 ∧ Goes s (syncS s' t).1 ∧ Wip s (syncS s' t).1 t f R R.length) ∨ (0 < s.fuse ∧ (syncS s' t).2 = 81 ∧ Wip s (syncS s' t).1 t f R sy) := by
  have hdf : s'.dat f = R := by rw [w.dat]; exact setF_same _ _ _
  obtain ⟨c1, c2, c3, c4, c5, c6, c7, c8⟩ := count_same s'
  have hs : syncS s' t = if (countS s').2 = 0 then ({ (countS s').1 with syn := setF s'.syn f R.length }, 0) else countS s' := by
    unfold syncS
    rw [g.find ht (w.get ht)]
    simp only
    rw [hdf]
  have hok := sync_ok w.ok t
  rw [hs] at hok ⊢
  rcases count_cases g ok.fuse.1 w.ok.fuse.1 with ⟨e, g'⟩ | ⟨hp, e⟩
  · rw [if_pos e] at hok ⊢
    refine .inl ⟨rfl, ⟨g'.on, g'.arm⟩, ⟨hok, c1.trans w.room, c3.trans w.last, c4.trans w.pend, c2.trans w.now, c5.trans w.held, c6.trans w.dat, ?_⟩⟩
    simp only
    rw [w.syn, setF_setF]
  · rw [if_neg (by rw [e]; decide)] at hok ⊢
    exact .inr ⟨hp, e, ⟨hok, c1.trans w.room, c3.trans w.last, c4.trans w.pend, c2.trans w.now, c5.trans w.held, c6.trans w.dat, c7.trans w.syn⟩⟩
/-- A frame more. -/
theorem put_wip {s s' : St} {t : Nm} {f : Nat} {R : List Int} {sy : Nat} (ok : Ok s) (w : Wip s s' t f R sy) (g : Goes s s') (ht : isNm t = true) (hf : f ∉ s.held) {x : WrS} (hx : x.name = t) {k : Int} {p : List Int} (hk : k = 1 ∨ k = 2 ∨ k = 3) (hp : p.length ≤ 1024) (hb : Byt p) (hr : heldS s + R.length + (12 + p.length) ≤ s.room) :
    Wip s (putS s' x k p).1 t f (R ++ encL k p) sy ∧ (((putS s' x k p).2.2 = 0 ∧ Goes s (putS s' x k p).1 ∧ (putS s' x k p).2.1.over = x.over) ∨ (0 < s.fuse ∧ (putS s' x k p).2.2 = 81)) ∧ (putS s' x k p).2.1.name = t ∧ (putS s' x k p).2.1.data = x.data := by
  have ha := append_wip ok w g ht hf (b := encL k p) (encL_byt hb) (by rw [encL_len]; omega)
  obtain ⟨hd, hn⟩ := putS_data s' x k p
  refine ⟨?_, ?_, hn.trans hx, hd⟩
  · unfold putS
    rw [if_neg (not_not_intro (encE_ok hk hp)), hx]
    split
    · exact ha.1
    · exact ha.1
  · unfold putS
    rw [if_neg (not_not_intro (encE_ok hk hp)), hx]
    rcases ha.2 with ⟨e, g'⟩ | ⟨hp', e⟩
    · rw [if_neg (not_not_intro e)]
      exact .inl ⟨rfl, g', rfl⟩
    · rw [if_pos (by rw [e]; decide)]
      exact .inr ⟨hp', e⟩
/-- The rename is done, the directory not yet synced. -/
structure Ren (s s' : St) (t n : Nm) (f : Nat) (R : List Int) : Prop where
  ok : Ok s'
  last : s'.last = s.last
  pend : s'.pend = s.pend ++ [(f, t), (f, n)]
  now : s'.now = moveD (moveD s.now f t) f n
  dat : s'.dat = setF s.dat f R
  syn : s'.syn = setF s.syn f R.length
  sum : heldS s' = heldS s + R.length
/-- All is done. -/
structure Fin (s s' : St) (t n : Nm) (f : Nat) (R : List Int) : Prop where
  ok : Ok s'
  goes : Goes s s'
  last : s'.last = s'.now
  pend : s'.pend = []
  now : s'.now = moveD (moveD s.now f t) f n
  dat : s'.dat = setF s.dat f R
  syn : s'.syn = setF s.syn f R.length
  room : s'.room = s.room
  sum : heldS s' ≤ heldS s + R.length
inductive Out9 (s s' : St) (t n : Nm) (f : Nat) (R : List Int) : Int → Prop
  | fin : Fin s s' t n f R → Out9 s s' t n f R 0
  | wip {R' : List Int} {sy : Nat} : 0 < s.fuse → Wip s s' t f R' sy → Out9 s s' t n f R 81
  | ren : 0 < s.fuse → Ren s s' t n f R → Out9 s s' t n f R 81
theorem fail_power (s : St) (t : Nm) (was : Bool) : failS s t was 81 = (s, 81) := by unfold failS; rw [if_neg (fun e => e.1 rfl)]
theorem pub_power {s : St} (ok : Ok s) (on : s.off = false) {n : Nm} (hn : isNm n = true) (ht : isNm (tn n) = true) (hx : s.now (tn n) = none) {f : Nat} (hf : f ∉ s.held) {hd : List Int} {l : List (List Int)} (hl : hd.length ≤ 1024) (hb : Byt hd) (h2 : ∀ p ∈ l, p.length ≤ 1024 ∧ Byt p)
    (hr : heldS s + (rowB (fileR hd l)).length ≤ s.room) : Out9 s (pubS s n hd l f).1 (tn n) n f (rowB (fileR hd l)) (pubS s n hd l f).2 := by
  have hlen : ∀ j, j ≤ l.length → (rowB (rowI hd (l.take j))).length + (if j < l.length then 12 + (l.getD j []).length else 16) ≤ (rowB (fileR hd l)).length := fun j hj => by
    have e : rowB (fileR hd l) = rowB (rowI hd (l.take j)) ++ rowB ((l.drop j).map (fun p => ((2 : Int), p)) ++ [(3, be4 l.length)]) := by
      have : fileR hd l = rowI hd (l.take j) ++ ((l.drop j).map (fun p => ((2 : Int), p)) ++ [(3, be4 l.length)]) := by
        unfold fileR rowI
        rw [List.cons_append, List.cons_append, ← List.append_assoc, ← List.map_append, List.take_append_drop]
      rw [this]; unfold rowB; rw [List.map_append, List.flatten_append]
    rw [e, List.length_append]
    split
    · rename_i hlt
      rw [List.drop_eq_getElem_cons hlt, List.map_cons, List.cons_append, rowB_cons, List.length_append, encL_len, List.getD_eq_getElem?_getD, List.getElem?_eq_getElem hlt]
      simp only [Option.getD_some]
      omega
    · rw [List.drop_of_length_le (by omega), List.map_nil, List.nil_append, rowB_cons, List.length_append, encL_len]
      have : (be4 (l.length : Int)).length = 4 := rfl
      omega
  have key : ∀ (k j : Nat) (p : Pb) (was : Bool), k + j = l.length + 4 → 1 ≤ j → j ≤ l.length + 1 → Wip s p.s (tn n) f (rowB (rowI hd (l.take (j - 1)))) 0 → Goes s p.s → p.w.name = tn n → p.w.over = false → p.w.data = ((j - 1 : Nat) : Int) →
      Out9 s (goP n hd l f was k j p).1 (tn n) n f (rowB (fileR hd l)) (goP n hd l f was k j p).2 := by
    intro k
    induction k with
    | zero => intro j p was h1 h2 h3; omega
    | succ k ih =>
      intro j p was h1 h2' h3 w g hname hover hdata
      by_cases hj : j ≤ l.length
      · have hjl : j - 1 < l.length := by omega
        have hp := h2 _ (mem_getD hjl [])
        have hle := hlen (j - 1) (by omega)
        rw [if_pos hjl] at hle
        have es : stepP n hd l f j p = (⟨(putW p.s p.w (l.getD (j - 1) [])).1, (putW p.s p.w (l.getD (j - 1) [])).2.1⟩, (putW p.s p.w (l.getD (j - 1) [])).2.2) := by
          unfold stepP; rw [if_neg (by omega), if_pos hj]
        obtain ⟨p1, p2, p3, p4⟩ := put_wip ok w g ht hf (x := p.w) hname (k := 2) (by omega) hp.1 hp.2 (by omega)
        have eR : rowB (rowI hd (l.take (j - 1))) ++ encL 2 (l.getD (j - 1) []) = rowB (rowI hd (l.take j)) := by
          rw [← rowB_snoc, ← rowI_snoc, ← take_getD hjl, show j - 1 + 1 = j by omega]
        rw [eR] at p1
        have hP : goP n hd l f was (k + 1) j p = if (putW p.s p.w (l.getD (j - 1) [])).2.2 = 0 then goP n hd l f was k (j + 1) ⟨(putW p.s p.w (l.getD (j - 1) [])).1, (putW p.s p.w (l.getD (j - 1) [])).2.1⟩ else failS (putW p.s p.w (l.getD (j - 1) [])).1 (tn n) was (putW p.s p.w (l.getD (j - 1) [])).2.2 := by
          show (if (stepP n hd l f j p).2 = 0 then _ else _) = _
          rw [es]
        rw [hP]
        rcases p2 with ⟨e, g', ov⟩ | ⟨hpw, e⟩
        · have eW : putW p.s p.w (l.getD (j - 1) []) = ((putS p.s p.w 2 (l.getD (j - 1) [])).1, { (putS p.s p.w 2 (l.getD (j - 1) [])).2.1 with data := (putS p.s p.w 2 (l.getD (j - 1) [])).2.1.data + 1 }, 0) := by
            unfold putW; rw [if_neg (by rw [hover]; decide), if_pos e]
          rw [eW]
          simp only [if_true]
          refine ih (j + 1) _ was (by omega) (by omega) (by omega) (by rw [Nat.add_sub_cancel]; exact p1) g' p3 (by simp only; rw [ov]; exact hover) (by simp only; rw [p4, hdata]; omega)
        · have eW : putW p.s p.w (l.getD (j - 1) []) = putS p.s p.w 2 (l.getD (j - 1) []) := by
            unfold putW; rw [if_neg (by rw [hover]; decide), if_neg (by rw [e]; decide)]
          rw [eW, e, if_neg (by decide), fail_power]
          exact .wip hpw p1
      · have ej : j = l.length + 1 := by omega
        subst ej
        have ek : k = 2 := by omega
        subst ek
        rw [show l.length + 1 - 1 = l.length by omega] at w hdata
        rw [List.take_length] at w
        have hle := hlen l.length (Nat.le_refl _)
        rw [if_neg (by omega), List.take_length] at hle
        have h4 : (be4 (l.length : Int)).length = 4 := rfl
        obtain ⟨p1, p2, p3, p4⟩ := put_wip ok w g ht hf (x := p.w) hname (k := 3) (p := be4 p.w.data) (by omega) (by simp [be4]) (be4_byt _) (by rw [hdata, h4]; omega)
        have eR : rowB (rowI hd l) ++ encL 3 (be4 p.w.data) = rowB (fileR hd l) := by rw [hdata, ← rowB_snoc]; rfl
        rw [eR] at p1
        have es : stepP n hd l f (l.length + 1) p = (⟨(endW p.s p.w true).1, (endW p.s p.w true).2.1⟩, (endW p.s p.w true).2.2.2.2) := by
          unfold stepP; rw [if_neg (by omega), if_neg (by omega), if_pos rfl]
        have hP : goP n hd l f was 3 (l.length + 1) p = if (endW p.s p.w true).2.2.2.2 = 0 then goP n hd l f was 2 (l.length + 2) ⟨(endW p.s p.w true).1, (endW p.s p.w true).2.1⟩ else failS (endW p.s p.w true).1 (tn n) was (endW p.s p.w true).2.2.2.2 := by
          show (if (stepP n hd l f (l.length + 1) p).2 = 0 then _ else _) = _
          rw [es]
        have hE : endW p.s p.w true = (let q := putS p.s p.w 3 (be4 p.w.data)
            let t' := if q.2.2 = 0 ∧ true = true then syncS q.1 p.w.name else (q.1, q.2.2)
            (t'.1, { q.2.1 with over := true }, if t'.2 ≠ 0 then (0, 0#32, t'.2) else (q.2.1.size, q.2.1.sum, 0))) := by
          unfold endW; rw [if_neg (by rw [hover]; decide)]
        rw [hP]
        rcases p2 with ⟨e, g', ov⟩ | ⟨hpw, e⟩
        · rw [hname] at hE
          rcases sync_wip ok p1 g' ht with ⟨y1, y2, y3⟩ | ⟨y1, y2, y3⟩
          · have eE : (endW p.s p.w true).1 = (syncS (putS p.s p.w 3 (be4 p.w.data)).1 (tn n)).1 ∧ (endW p.s p.w true).2.2.2.2 = 0 := by
              rw [hE]
              simp only [e, and_self, if_true, y1, ne_eq, not_true, if_false]
            rw [eE.2, if_pos rfl, eE.1]
            obtain ⟨S2, hS2⟩ : ∃ S2, S2 = (syncS (putS p.s p.w 3 (be4 p.w.data)).1 (tn n)).1 := ⟨_, rfl⟩
            rw [← hS2] at y2 y3 ⊢
            -- rename
            have hb2 : beginS S2 [tn n, n] = 0 := by unfold beginS; simp [ht, hn, y2.on]
            have hrn : renameS S2 (tn n) n = countS { S2 with now := moveD S2.now f n, pend := S2.pend ++ [(f, n)] } := by
              unfold renameS
              rw [hb2, y3.get ht]
              simp only [ne_eq, not_true, if_false]
              rfl
            have hrok := rename_ok y3.ok (tn n) n
            have es2 : ∀ w', stepP n hd l f (l.length + 2) ⟨S2, w'⟩ = (⟨(renameS S2 (tn n) n).1, w'⟩, (renameS S2 (tn n) n).2) := fun w' => by
              unfold stepP; rw [if_neg (by omega), if_neg (by omega), if_neg (by omega), if_pos (by omega)]
            have hP2 : ∀ w', goP n hd l f was 2 (l.length + 2) ⟨S2, w'⟩ = if (renameS S2 (tn n) n).2 = 0 then goP n hd l f was 1 (l.length + 3) ⟨(renameS S2 (tn n) n).1, w'⟩ else failS (renameS S2 (tn n) n).1 (tn n) was (renameS S2 (tn n) n).2 := fun w' => by
              show (if (stepP n hd l f (l.length + 2) ⟨S2, w'⟩).2 = 0 then _ else _) = _
              rw [es2]
            rw [hP2]
            obtain ⟨c1, c2, c3, c4, c5, c6, c7, c8⟩ := count_same { S2 with now := moveD S2.now f n, pend := S2.pend ++ [(f, n)] }
            rw [← hrn] at c1 c2 c3 c4 c5 c6 c7 c8
            have sum2 := y3.sum hf
            have hren : Ren s (renameS S2 (tn n) n).1 (tn n) n f (rowB (fileR hd l)) := by
              refine ⟨hrok, c3.trans y3.last, ?_, ?_, c6.trans y3.dat, c7.trans y3.syn, ?_⟩
              · rw [c4]; simp only; rw [y3.pend, List.append_assoc]; rfl
              · rw [c2]; simp only; rw [y3.now]
              · rw [← sum2]; unfold heldS; rw [c5, c6]
            rcases count_cases (s0 := s) (s := { S2 with now := moveD S2.now f n, pend := S2.pend ++ [(f, n)] }) ⟨y2.on, y2.arm⟩ ok.fuse.1 y3.ok.fuse.1 with ⟨z1, z2⟩ | ⟨z1, z2⟩
            · rw [← hrn] at z1 z2
              rw [if_pos z1]
              obtain ⟨S3, hS3⟩ : ∃ S3, S3 = (renameS S2 (tn n) n).1 := ⟨_, rfl⟩
              rw [← hS3] at hren z2 ⊢
              have hrm3 : S3.room = s.room := by rw [hS3, c1]; exact y3.room
              have es3 : ∀ w', stepP n hd l f (l.length + 3) ⟨S3, w'⟩ = (⟨(syncDirS S3).1, w'⟩, (syncDirS S3).2) := fun w' => by
                unfold stepP; rw [if_neg (by omega), if_neg (by omega), if_neg (by omega), if_neg (by omega)]
              have hP3 : ∀ w', goP n hd l f was 1 (l.length + 3) ⟨S3, w'⟩ = if (syncDirS S3).2 = 0 then ((syncDirS S3).1, 0) else failS (syncDirS S3).1 (tn n) was (syncDirS S3).2 := fun w' => by
                show (if (stepP n hd l f (l.length + 3) ⟨S3, w'⟩).2 = 0 then _ else _) = _
                rw [es3]
                rfl
              rw [hP3]
              have hsok := syncDir_ok hren.ok
              obtain ⟨d1, d2, d3, d4, d5, d6, d7, d8⟩ := count_same S3
              have hsd : syncDirS S3 = if (countS S3).2 = 0 then (settleS (countS S3).1, 0) else countS S3 := by
                unfold syncDirS
                rw [if_neg (by rw [z2.on]; decide)]
              rw [hsd] at hsok ⊢
              rcases count_cases z2 ok.fuse.1 hren.ok.fuse.1 with ⟨v1, v2⟩ | ⟨v1, v2⟩
              · rw [if_pos v1] at hsok ⊢
                rw [if_pos rfl]
                refine .fin ⟨hsok, ⟨v2.on, v2.arm⟩, rfl, rfl, d2.trans hren.now, d6.trans hren.dat, d7.trans hren.syn, ?_, ?_⟩
                · show (countS S3).1.room = s.room
                  rw [d1]; exact hrm3
                · have q := sum_filter_le (countS S3).1.held (fun g => (((countS S3).1.dat g).length : Int)) (fun x => by omega) (fun g => @decide (∃ m, (countS S3).1.now m = some g) (Classical.propDecidable _))
                  rw [← hren.sum]
                  have e1 : heldS S3 = (((countS S3).1.held.map fun g => (((countS S3).1.dat g).length : Int))).sum := by unfold heldS; rw [d5, d6]
                  rw [e1]
                  unfold heldS settleS
                  simp only
                  exact q
              · have hx9 : ¬ (countS S3).2 = 0 := by rw [v2]; decide
                rw [if_neg hx9] at hsok ⊢
                rw [if_neg hx9, v2, fail_power]
                refine .ren v1 ⟨hsok, d3.trans hren.last, d4.trans hren.pend, d2.trans hren.now, d6.trans hren.dat, d7.trans hren.syn, ?_⟩
                rw [← hren.sum]; unfold heldS; rw [d5, d6]
            · rw [← hrn] at z2
              rw [z2, if_neg (by decide), fail_power]
              exact .ren z1 hren
          · have eE : (endW p.s p.w true).1 = (syncS (putS p.s p.w 3 (be4 p.w.data)).1 (tn n)).1 ∧ (endW p.s p.w true).2.2.2.2 = 81 := by
              rw [hE]
              simp only [e, and_self, if_true, y2]
              exact ⟨trivial, by rw [if_pos (by decide)]⟩
            rw [eE.2, if_neg (by decide), eE.1, fail_power]
            exact .wip y1 y3
        · have eE : (endW p.s p.w true).1 = (putS p.s p.w 3 (be4 p.w.data)).1 ∧ (endW p.s p.w true).2.2.2.2 = 81 := by
            rw [hE]
            simp only [e]
            rw [if_neg (by decide)]
            exact ⟨rfl, by rw [if_pos (show (81 : Int) ≠ 0 by decide)]⟩
          rw [eE.2, if_neg (by decide), eE.1, fail_power]
          exact .wip hpw p1
  have es : stepP n hd l f 0 ⟨s, newW (tn n)⟩ = (⟨(beginW s (tn n) f hd).1, (beginW s (tn n) f hd).2.1⟩, (beginW s (tn n) f hd).2.2) := by unfold stepP; rw [if_pos rfl]
  have eg : pubS s n hd l f = if (beginW s (tn n) f hd).2.2 = 0 then goP n hd l f (thereS s (tn n)) (l.length + 3) 1 ⟨(beginW s (tn n) f hd).1, (beginW s (tn n) f hd).2.1⟩ else failS (beginW s (tn n) f hd).1 (tn n) (thereS s (tn n)) (beginW s (tn n) f hd).2.2 := by
    unfold pubS
    show (if (stepP n hd l f 0 ⟨s, newW (tn n)⟩).2 = 0 then _ else _) = _
    rw [es]
  rw [eg]
  obtain ⟨cw, cc⟩ := create_wip ok on ht hx hf
  have hle := hlen 0 (by omega)
  have r0 : rowB (rowI hd (l.take 0)) = encL 1 hd := by unfold rowI; rw [List.take_zero, List.map_nil, rowB_cons]; simp [rowB]
  rw [r0, encL_len] at hle
  rcases cc with ⟨ce, cg⟩ | ⟨cp, ce⟩
  · obtain ⟨p1, p2, p3, p4⟩ := put_wip ok cw cg ht hf (x := newW (tn n)) rfl (k := 1) (p := hd) (by omega) hl hb (by simp only [List.length_nil]; split at hle <;> omega)
    rw [List.nil_append] at p1
    have eB : beginW s (tn n) f hd = putS (createS s (tn n) f).1 (newW (tn n)) 1 hd := by unfold beginW; rw [if_neg (by omega), if_neg (not_not_intro ce)]
    rw [eB]
    rcases p2 with ⟨e, g', ov⟩ | ⟨hpw, e⟩
    · rw [if_pos e]
      exact key (l.length + 3) 1 _ _ (by omega) (by omega) (by omega) (by rw [show 1 - 1 = 0 from rfl, r0]; exact p1) g' p3 ov (by rw [p4]; rfl)
    · rw [e, if_neg (by decide), fail_power]
      exact .wip hpw p1
  · have eB : beginW s (tn n) f hd = ((createS s (tn n) f).1, newW (tn n), 81) := by unfold beginW; rw [if_neg (by omega), if_pos (by rw [ce]; decide), ce]
    rw [eB]
    simp only
    rw [if_neg (by decide), fail_power]
    exact .wip cp cw
end Go.Proofs.YtgigigchjnnonaaDoor
namespace Go.V
open Go
/-- All that there was is as it was, and F is new. -/
def Newly (H H' : Heap) (F : Nat → Prop) : Prop := Ext H H' ∧ ∀ g, F g → H.size ≤ g
theorem Newly.chx {H H1 H2 : Heap} {X F F' : Nat → Prop} (h : Newly H H1 F) (c : ChX X F F' H1 H2) (hX : ∀ g, X g → H.size ≤ g) : Newly H H2 F' := by
  refine ⟨⟨Nat.le_trans h.1.size c.size, fun b hb => ?_⟩, fun g hg => ?_⟩
  · rw [c.get b (Nat.lt_of_lt_of_le hb h.1.size) (fun hf => by have := h.2 b hf; omega) fun hx => by have := hX b hx; omega]
    exact h.1.get b hb
  · rcases c.old g hg with e | e
    · exact h.2 g e
    · exact Nat.le_trans h.1.size e
theorem Newly.ext {H H1 H2 : Heap} {F : Nat → Prop} (h : Newly H H1 F) (x : Ext H1 H2) : Newly H H2 F := ⟨h.1.trans (x.mono h.1.size), h.2⟩
theorem Newly.stg0 {H H1 : Heap} {F : Nat → Prop} (h : Newly H H1 F) (ht : CrcTab H) : ¬ F 0 ∧ CrcTab H1 := by
  refine ⟨fun e => ?_, ht.ext h.1⟩
  have := h.2 0 e
  obtain ⟨t, fr, ht⟩ := ht
  have := (Array.getElem?_eq_some_iff.1 ht).1
  omega
def nmA : Nm := ⟨#[97]⟩
theorem nmA_nm : isNm nmA = true := by decide +kernel
/-- A literal of bytes. -/
theorem lit_ints {H : Heap} {n : Nat} {c : Array Value} {fr : Nat × Nat} {xs : List Int} {k : IntKind} {e : TypeId} (hc : c.toList = xs.map (.int k)) (hn : xs.length = n) : Ints (H.push (.cells c e fr)) e k (.slice (some ⟨H.size, 0, none⟩) n n) xs := by
  refine Sl.of (c := c) (fr := fr) push_new (Nat.le_refl _) (by simp [hn]) fun i hi => ?_
  rw [Nat.zero_add, ← Array.getElem?_toList, hc]
end Go.V
namespace Go.Proofs.YtgigigchjnnonaaDoor
open Go Go.V


-- 6: pith/fs.New
-- 47: pith/files.Begin
-- 49: (*pith/files.Writer).Put
-- 51: (*pith/files.Writer).End
-- 36: pith/files.Open
-- 18: pith/files.Load
-- 20: pith/pithref.SameBytes
-- 21: pith/pithref.SameByteLists
-- 42: []uint8
-- 49: [][]uint8
-- 5: uint8
theorem FsH.lt {H : Heap} {F : Nat → Prop} {b : Nat} {s : St} (h : FsH H F b s) {g : Nat} (hg : F g) : g < H.size := by
  obtain ⟨_, _, _, _, _, hP⟩ := h; exact hP.lt _ hg
theorem Peace.fresh {room : Int} (h : 0 ≤ room ∧ room ≤ 2147483647) : Peace (freshS room) := ⟨fresh_ok h, rfl, rfl⟩
theorem held_fresh (room : Int) : heldS (freshS room) = 0 := rfl
def hi9 : List Int := [104, 105]
def l9 : List (List Int) := [[120], []]
theorem len9 : (rowB (fileR hi9 l9)).length = 55 := by
  simp [fileR, hi9, l9, rowB_cons, rowB, encL_len, be4]
end Go.Proofs.YtgigigchjnnonaaDoor
namespace Go.V
open Go
def nmF : Nm := ⟨#[102]⟩
theorem nmF_nm : isNm nmF = true := by decide +kernel
theorem ints_lt {H : Heap} {e : TypeId} {k : IntKind} {u : Value} {xs : List Int} (h : Ints H e k u xs) : xs = [] ∨ ∀ g, blk u = some g → g < H.size := by
  obtain ⟨a, len, cap, rfl, hc, hl, hd⟩ := h
  rcases hd with rfl | ⟨b, o, c, t, fr, rfl, hb, _⟩
  · left; simpa using hl
  · right
    intro g hg
    have : b = g := by simpa [blk] using hg
    subst this
    exact (Array.getElem?_eq_some_iff.1 hb).1
end Go.V
namespace Go.Proofs.YtgigigchjnnonaaDoor
open Go Go.V
-- 5: uint8
-- 42: []uint8
theorem aw_of {H0 H : Heap} {F : Nat → Prop} {K : Nat} {u : Value} {xs : List Int} (hu : Ints H0 5 .u8 u xs) (x : Ext H0 H) (hF : ∀ g, F g → H0.size ≤ g) (hK : H0.size ≤ K) : Aw H F K u xs :=
  ⟨hu.ext x, (ints_lt hu).imp id fun h g hg => ⟨fun e => by have := hF g e; have := h g hg; omega, Nat.lt_of_lt_of_le (h g hg) hK⟩⟩
theorem awl_of {H0 H : Heap} {F : Nat → Prop} {B : Nat} {v : Value} {vs : List Value} {l : List (List Int)} (ho : V.Own H B 42 1 v vs) (ha : All2 (fun u xs => Ints H0 5 .u8 u xs) vs l) (x : Ext H0 H) (hF : ∀ g, F g → H0.size ≤ g) (hB : ∀ g, F g → g < B) : AwL H F H.size v vs l :=
  ⟨ho.sl, .inr fun g hg => ⟨fun e => by have := hB g e; have := (ho.blk hg).1; omega, (ho.blk hg).2.1⟩, ha.mono fun _ _ h => aw_of h x hF x.size⟩
theorem take_min (hd : List Int) : hd.take (min hd.length 1024) = hd.take 1024 := by
  rw [← List.take_take, List.take_of_length_le (l := hd.take 1024) (by simp; omega)]
theorem clipL_facts {l : List (List Int)} (hb : ∀ x ∈ l, Byt x) : (clipL l).length ≤ 40 ∧ (∀ x ∈ clipL l, x.length ≤ 1024) ∧ ∀ x ∈ clipL l, Byt x := by
  unfold clipL
  refine ⟨by simp; omega, fun x hx => ?_, fun x hx => ?_⟩
  · obtain ⟨y, hy, rfl⟩ := List.mem_map.1 hx
    simp; omega
  · obtain ⟨y, hy, rfl⟩ := List.mem_map.1 hx
    exact fun c hc => hb y (List.mem_of_mem_take hy) c (List.mem_of_mem_take hc)
/-- head[:min(len(head), MaxPayload)]. -/
theorem head_cut {H : Heap} {a : Option Addr} {cap : Nat} {hd : List Int} (h : Ints H 5 .u8 (.slice a hd.length cap) hd) : Ints H 5 .u8 (.slice a (min hd.length 1024) cap) (hd.take 1024) := by
  have := ints_take h (m := min hd.length 1024) (by omega)
  rw [take_min] at this
  exact this
theorem Aw.less {H : Heap} {F G : Nat → Prop} {K : Nat} {u : Value} {p : List Int} (h : Aw H G K u p) (hF : ∀ g, F g → G g) : Aw H F K u p := ⟨h.1, h.2.imp id fun q g hg => ⟨fun e => (q g hg).1 (hF g e), (q g hg).2⟩⟩
theorem AwL.less {H : Heap} {F G : Nat → Prop} {K : Nat} {v : Value} {vs : List Value} {l : List (List Int)} (h : AwL H G K v vs l) (hF : ∀ g, F g → G g) : AwL H F K v vs l :=
  ⟨h.sl, h.aw.imp id fun q g hg => ⟨fun e => (q g hg).1 (hF g e), (q g hg).2⟩, h.all.mono fun _ _ q => q.less hF⟩
theorem AwL.up {H : Heap} {F : Nat → Prop} {K K' : Nat} {v : Value} {vs : List Value} {l : List (List Int)} (h : AwL H F K v vs l) (hK : K ≤ K') : AwL H F K' v vs l :=
  ⟨h.sl, h.aw.imp id fun q g hg => ⟨(q g hg).1, by have := (q g hg).2; omega⟩, h.all.mono fun _ _ q => ⟨q.1, q.2.imp id fun q g hg => ⟨(q g hg).1, by have := (q g hg).2; omega⟩⟩⟩
end Go.Proofs.YtgigigchjnnonaaDoor
namespace Go.Proofs.YtgigigchjnnonaaDoor
open Go Go.V
theorem data_wf (xs : List Int) (ds : List Bool) : ∀ l ∈ chkData xs ds, Byt l := by
  have hp : ∀ (n : Nat) (xs : List Int), xs.length ≤ n → ∀ l ∈ pieces xs, Byt l := by
    intro n
    induction n with
    | zero =>
      intro xs h l hl
      rw [pieces_zero (by omega)] at hl
      cases hl
    | succ n ih =>
      intro xs h l hl
      by_cases h0 : 0 < xs.length
      · rw [pieces_cons h0] at hl
        rcases List.mem_cons.1 hl with rfl | hl
        · intro x hx
          obtain ⟨y, _, hy⟩ := List.mem_flatMap.1 hx
          exact vtail_wf _ _ x hy
        · exact ih (xs.drop 200) (by simp; omega) l hl
      · rw [pieces_zero (by omega)] at hl
        cases hl
  intro l hl
  simp only [chkData, List.mem_append] at hl
  rcases hl with hl | hl
  · exact hp _ xs (Nat.le_refl _) l hl
  · split at hl
    · cases hl
    · rw [List.mem_singleton.1 hl]
      intro x hx
      obtain ⟨b, _, rfl⟩ := List.mem_map.1 hx
      cases b <;> decide
theorem vput_small {x : Int} (h : 0 ≤ x ∧ x < 16777216) : 1 ≤ (vput x).length ∧ (vput x).length ≤ 4 := by
  rw [vput_len, Int.max_eq_left h.1]
  exact ⟨vlen_pos x, vlen_bound 4 x (by omega) (by omega)⟩
theorem flat_small : ∀ {xs : List Int}, (∀ x ∈ xs, 0 ≤ x ∧ x < 16777216) → xs.length ≤ (xs.flatMap vput).length ∧ (xs.flatMap vput).length ≤ 4 * xs.length
  | [], _ => by simp
  | x :: xs, h => by
    have h1 := vput_small (h x (by simp))
    have h2 := flat_small (xs := xs) fun y hy => h y (by simp [hy])
    rw [List.flatMap_cons, List.length_append, List.length_cons]
    omega
theorem pieces_small : ∀ (m : Nat) {xs : List Int}, xs.length ≤ m → (∀ x ∈ xs, 0 ≤ x ∧ x < 16777216) → ∀ l ∈ pieces xs, 1 ≤ l.length ∧ l.length ≤ 800
  | m, [], _, _, l, hl => by rw [pieces_nil] at hl; cases hl
  | 0, x :: xs, h, _, _, _ => by simp at h
  | m + 1, x :: xs, h, hx, l, hl => by
    rw [pieces_cons (by simp)] at hl
    rcases List.mem_cons.1 hl with rfl | hl
    · have := flat_small (xs := (x :: xs).take 200) fun y hy => hx y (List.mem_of_mem_take hy)
      simp only [List.length_take, List.length_cons] at this
      omega
    · exact pieces_small m (by simp at h ⊢; omega) (fun y hy => hx y (List.mem_of_mem_drop hy)) l hl
theorem data_small {gen p : Int} {xs : List Int} {ds : List Bool} (h : mayC gen p xs ds = true) : ∀ l ∈ chkData xs ds, 1 ≤ l.length ∧ l.length ≤ 1024 := by
  obtain ⟨m1, m2, m3, m4, m5, m6, m7⟩ := mayC_iff.1 h
  intro l hl
  rw [chkData] at hl
  rcases List.mem_append.1 hl with hl | hl
  · have := pieces_small _ (Nat.le_refl _) m7 l hl
    omega
  · split at hl
    · cases hl
    · rw [List.mem_singleton.1 hl, List.length_map]
      omega
theorem pieces_le : ∀ (m : Nat) {xs : List Int}, xs.length ≤ m → (pieces xs).length * 200 ≤ xs.length + 199
  | m, [], _ => by rw [pieces_nil]; simp
  | 0, x :: xs, h => by simp at h
  | m + 1, x :: xs, h => by
    rw [pieces_cons (by simp)]
    have := pieces_le m (xs := (x :: xs).drop 200) (by simp at h ⊢; omega)
    simp only [List.length_drop, List.length_cons] at this ⊢
    omega
theorem chk_len {xs : List Int} {ds : List Bool} (h : xs.length ≤ 5000) : (chkData xs ds).length ≤ 26 := by
  have := pieces_le _ (Nat.le_refl xs.length)
  rw [chkData, List.length_append]
  split <;> simp <;> omega
theorem head_len (gen p : Int) (xs : List Int) (ds : List Bool) : (chkHead gen p xs ds).length = 16 := by simp [chkHead, four]
theorem chk_file {gen p : Int} {xs : List Int} {ds : List Bool} (hm : mayC gen p xs ds = true) (h : xs.length ≤ 5000) : (rowB (fileR (chkHead gen p xs ds) (chkData xs ds))).length ≤ 27988 ∧ 28 ≤ (rowB (fileR (chkHead gen p xs ds) (chkData xs ds))).length := by
  have h1 := head_len gen p xs ds
  have h2 := file_len (hd := chkHead gen p xs ds) (l := chkData xs ds) (by omega) (fun y hy => (data_small hm y hy).2)
  have h3 := chk_len (ds := ds) h
  refine ⟨by omega, ?_⟩
  rw [fileR_eq, rowB_snoc, List.length_append, encL_len, rowI, rowB_cons, List.length_append, encL_len]
  omega
theorem chk_back {gen p : Int} {xs : List Int} {ds : List Bool} (hm : mayC gen p xs ds = true) : decS gen (chkHead gen p xs ds) (chkData xs ds) = some (p, xs, ds) :=
  (decS_iff (head_wf _ _ _ _) (data_wf _ _)).2 ⟨hm, rfl, rfl⟩
theorem chk_byt {gen p : Int} {xs : List Int} {ds : List Bool} (hm : mayC gen p xs ds = true) : ∀ y ∈ chkData xs ds, y.length ≤ 1024 ∧ Byt y := fun y hy => ⟨(data_small hm y hy).2, data_wf xs ds y hy⟩
/-- Does a checkpoint fit the degrees and the shards? -/
def fitsC (xs : List Int) (ds : List Bool) (deg : List Int) (k : Int) : Bool :=
  decide (xs.length = deg.length ∧ (ds.length : Int) = k ∧ ∀ i, i < xs.length → xs.getD i 0 ≤ deg.getD i 0)
/-- What Load answers for a head and data. -/
def cloadS (gen : Int) (hd : List Int) (l : List (List Int)) (e : Int) (deg : List Int) (k : Int) : Option (Int × List Int × List Bool) :=
  if e ≠ 0 then none else
  match decS gen hd l with
  | none => none
  | some (p, xs, ds) => if fitsC xs ds deg k = true then some (p, xs, ds) else none
theorem cloadS_back {gen p : Int} {xs : List Int} {ds : List Bool} (hm : mayC gen p xs ds = true) (deg : List Int) (k : Int) : cloadS gen (chkHead gen p xs ds) (chkData xs ds) 0 deg k = if fitsC xs ds deg k = true then some (p, xs, ds) else none := by
  unfold cloadS
  rw [chk_back hm]
  rfl
theorem cloadS_bad {gen e : Int} {hd : List Int} {l : List (List Int)} {deg : List Int} {k : Int} (h : e ≠ 0) : cloadS gen hd l e deg k = none := by unfold cloadS; rw [if_pos h]
/-- A file system with one whole file under a name. -/
structure WasN (s : St) (n : Nm) (R : List Int) : Prop where
  ok : Ok s
  on : s.off = false
  pend : s.pend = []
  last : s.last = s.now
  tmp : s.now (tn n) = none
  room : s.room = 1048576
  sum : heldS s ≤ 100000
  ops : s.ops ≤ 1000
  file : ∃ y, s.now n = some y ∧ s.dat y = R ∧ s.syn y = (s.dat y).length
theorem WasN.first {n : Nm} {f : Nat} {R : List Int} {s' : St} (hn : isNm n = true) (ht : isNm (tn n) = true) (hne : tn n ≠ n) (h : Fin (freshS 1048576) s' (tn n) n f R) (hl : R.length ≤ 100000) (ho : s'.ops ≤ 1000) : WasN s' n R ∧ Peace s' := by
  refine ⟨⟨h.ok, h.goes.on, h.pend, h.last, ?_, h.room, ?_, ho, f, ?_, ?_, ?_⟩, ⟨h.ok, h.goes.on, h.goes.arm rfl⟩⟩
  · rw [h.now]
    unfold moveD freshS
    simp [hne, isNm_ne ht]
  · have := h.sum
    rw [held_fresh] at this
    omega
  · rw [h.now]; exact move_same (isNm_ne hn)
  · rw [h.dat, setF_same]
  · rw [h.syn, h.dat, setF_same, setF_same]
theorem WasN.arm {s : St} {n : Nm} {R : List Int} (h : WasN s n R) {k : Int} (h0 : 0 < k) (h1 : k < 1000) : WasN (armS s k).1 n R := by
  have ok := arm_ok h.ok (k := k) (by omega)
  have e : (armS s k).1 = { s with fuse := k } := by
    unfold armS
    rw [if_neg (by omega), if_neg (by rw [h.on]; decide)]
  rw [e] at ok ⊢
  exact ⟨ok, h.on, h.pend, h.last, h.tmp, h.room, h.sum, h.ops, h.file⟩
theorem itoa_d {n : Int} (h : n = 1 ∨ n = 2 ∨ n = 3 ∨ n = 4) : Lib.itoa n = [(48 + n).toNat.toUInt8] := by
  rcases h with rfl | rfl | rfl | rfl <;> simp [Lib.itoa, Lib.decDigits]
def nmK (c : UInt8) : Nm := ⟨#[99, 107, 112, 116, 46, c]⟩
theorem nameS_d {n : Int} (h : n = 1 ∨ n = 2 ∨ n = 3 ∨ n = 4) : nameS n = nmK (48 + n).toNat.toUInt8 := by
  rw [nameS, itoa_d h]
  rcases h with rfl | rfl | rfl | rfl <;> rfl
theorem out_ok {s s' : St} {t n : Nm} {f : Nat} {R : List Int} {e : Int} (h : Out9 s s' t n f R e) : Ok s' ∧ (e = 0 ∨ (0 < s.fuse ∧ e = 81)) := by
  cases h with
  | fin h => exact ⟨h.ok, .inl rfl⟩
  | wip hp h => exact ⟨h.ok, .inr ⟨hp, rfl⟩⟩
  | ren hp h => exact ⟨h.ok, .inr ⟨hp, rfl⟩⟩
end Go.Proofs.YtgigigchjnnonaaDoor
namespace Go.Proofs.YtgigigchjnnonaaDoor
open Go Go.V
-- 45: pith/files.there
-- 13: (*pith/fs.FS).Size
-- 47: pith/files.Begin
-- 49: (*pith/files.Writer).Put
-- 51: (*pith/files.Writer).End
-- 53: (*pith/fs.FS).Rename
-- 46: pith/files.Publish$1
-- 48: pith/files.Publish$2
-- 50: pith/files.Publish$3
-- 52: pith/files.Publish$4
-- 5: uint8
-- 42: []uint8
-- 9: string
-- 25: *fs.FS
-- 98: *files.Writer
section
variable {H : Heap} {F : Nat → Prop} {b w c4 c5 c6 c9 c11 cp : Nat} {s : St} {x : WrS} {u v : Value} {p hd : List Int} {t n : Nm}
theorem F45 (h : FsH H F b s) (ok : Ok s) (n : Nm) : Fun Tryd.prog 45 #[ptrOf b, .string n] H (fun r H' => r = .bool (thereS s n) ∧ Ext H H') := by
  obtain ⟨_, _, _, _, _, hP⟩ := h
  refine fun_of mixed (args := [_, _]) Tryd.func45 Tryd.ntmps45 b45 r45 rfl ?_
  simp only [go_sem, ↓reduceIte, Nat.reduceEqDiff, Nat.reduceLeDiff, Nat.reduceAdd, Nat.reduceMul, Nat.reduceSub, Nat.reduceBEq, Nat.reduceGT, Nat.reduceLT, Int.reduceLE, Int.reduceLT, Int.reduceNeg, reduceCtorEq, ptrOf]
  refine FunI.by (F13 hP ok.nowH n) ?_
  rintro _ H1 ⟨rfl, x1⟩
  simp only [go_sem, ↓reduceIte, Nat.reduceEqDiff, Nat.reduceLeDiff, Nat.reduceAdd, Nat.reduceMul, Nat.reduceSub, Nat.reduceBEq, Nat.reduceGT, Nat.reduceLT, Int.reduceLE, Int.reduceLT, Int.reduceNeg, reduceCtorEq]
  exact ⟨rfl, x1⟩
theorem F46 (h : FsH H F b s) (ok : Ok s) (ho : s.ops < 549755813888) (h0 : ¬ F 0) (ht : CrcTab H) (hv : Ints H 5 .u8 u hd) (hb : Byt hd) (hl : hd.length < 4611686018427387904) (hvF : hd = [] ∨ ∀ g, blk u = some g → ¬ F g ∧ g < H.size)
    (k4 : H[c4]? = some (.cells #[ptrOf b] 25)) (k9 : H[c9]? = some (.cells #[.string t] 9)) (k6 : H[c6]? = some (.cells #[u] 42)) (k11 : H[c11]? = some (.cells #[v] 98)) (n11 : ¬ F c11) :
    Fun Tryd.prog 46 #[ptrOf c4, ptrOf c9, ptrOf c6, ptrOf c11] H (fun r H' => ∃ f, f ∉ s.held ∧ r = .int .i64 (beginW s t f hd).2.2 ∧ ∃ F', FsH H' F' b (beginW s t f hd).1 ∧ ChX (· = c11) F F' H H' ∧
      ((beginW s t f hd).2.2 = 0 → ∃ w, H'[c11]? = some (.cells #[ptrOf w] 98) ∧ H.size ≤ w ∧ ¬ F' w ∧ WrH H' w b (beginW s t f hd).2.1)) := by
  obtain ⟨a, cap, rfl⟩ := hv.form
  refine fun_of mixed (args := [_, _, _, _]) Tryd.func46 Tryd.ntmps46 b46 r46 rfl ?_
  have q4 : hget H c4 0 = some (ptrOf b) := hget_cells k4
  have q9 : hget H c9 0 = some (.string t) := hget_cells k9
  have q6 : hget H c6 0 = _ := hget_cells k6
  simp only [ptrOf] at q4
  simp only [go_sem, ↓reduceIte, Nat.reduceEqDiff, Nat.reduceLeDiff, Nat.reduceAdd, Nat.reduceMul, Nat.reduceSub, Nat.reduceBEq, Nat.reduceGT, Nat.reduceLT, Int.reduceLE, Int.reduceLT, Int.reduceNeg, reduceCtorEq, ptrOf, q4, q9, q6]
  refine FunI.by (F47' h ok ho h0 ht hv hb hl hvF) ?_
  rintro _ H1 ⟨f, hf, F1, h1, cx, r1⟩
  have k11' := cx.keep k11 n11 (fun e => e)
  have n11' : ¬ F1 c11 := cx.not (Array.getElem?_eq_some_iff.1 k11).1 n11
  have hlt := (Array.getElem?_eq_some_iff.1 k11).1
  by_cases c : (beginW s t f hd).2.2 = 0
  · rw [if_pos c] at r1
    obtain ⟨w, rfl, hw, hFw, hwr⟩ := r1
    simp only [go_sem, ↓reduceIte, Nat.reduceEqDiff, Nat.reduceLeDiff, Nat.reduceAdd, Nat.reduceMul, Nat.reduceSub, Nat.reduceBEq, Nat.reduceGT, Nat.reduceLT, Int.reduceLE, Int.reduceLT, Int.reduceNeg, reduceCtorEq, ptrOf, c]
    refine ⟨rfl, hcan_of k11' (by simp), f, hf, by rw [c], F1, h1.put n11', (cx.mono (fun _ e => e.elim)).put (.inl rfl), fun _ => ⟨w, by rw [hput_same k11']; rfl, hw, hFw, ?_⟩⟩
    unfold WrH
    rw [hput_other _ _ _ _ (by omega)]
    exact hwr
  · rw [if_neg c] at r1
    subst r1
    simp only [go_sem, ↓reduceIte, Nat.reduceEqDiff, Nat.reduceLeDiff, Nat.reduceAdd, Nat.reduceMul, Nat.reduceSub, Nat.reduceBEq, Nat.reduceGT, Nat.reduceLT, Int.reduceLE, Int.reduceLT, Int.reduceNeg, reduceCtorEq]
    exact ⟨rfl, hcan_of k11' (by simp), f, hf, rfl, F1, h1.put n11', (cx.mono (fun _ e => e.elim)).put (.inl rfl), fun e => absurd e c⟩
theorem F48 (h : FsH H F b s) (ok : Ok s) (ho : s.ops < 1099511627776) (hw : WrH H w b x) (hFw : ¬ F w) (h0 : ¬ F 0) (ht : CrcTab H)
    (hv : Ints H 5 .u8 v p) (hb : Byt p) (hl : p.length < 4611686018427387904) (hvF : p = [] ∨ ∀ g, blk v = some g → ¬ F g ∧ g ≠ w) (hz : 0 ≤ x.size ∧ x.size < 4611686018427387904) (hd : 0 ≤ x.data ∧ x.data < 4611686018427387904)
    (k11 : H[c11]? = some (.cells #[ptrOf w] 98)) (kp : H[cp]? = some (.cells #[v] 42)) :
    Fun Tryd.prog 48 #[ptrOf c11, ptrOf cp] H (fun r H' => r = .int .i64 (putW s x p).2.2 ∧ ∃ F', FsH H' F' b (putW s x p).1 ∧ WrH H' w b (putW s x p).2.1 ∧ ChX (· = w) F F' H H') := by
  obtain ⟨a, cap, rfl⟩ := hv.form
  refine fun_of mixed (args := [_, _]) Tryd.func48 Tryd.ntmps48 b48 r48 rfl ?_
  have q1 : hget H c11 0 = some (ptrOf w) := hget_cells k11
  have q2 : hget H cp 0 = _ := hget_cells kp
  simp only [ptrOf] at q1
  simp only [go_sem, ↓reduceIte, Nat.reduceEqDiff, Nat.reduceLeDiff, Nat.reduceAdd, Nat.reduceMul, Nat.reduceSub, Nat.reduceBEq, Nat.reduceGT, Nat.reduceLT, Int.reduceLE, Int.reduceLT, Int.reduceNeg, reduceCtorEq, ptrOf, q1, q2]
  refine FunI.by (F49 h ok ho hw hFw h0 ht hv hb hl hvF hz hd) ?_
  rintro _ H1 ⟨rfl, hh⟩
  simp only [go_sem, ↓reduceIte, Nat.reduceEqDiff, Nat.reduceLeDiff, Nat.reduceAdd, Nat.reduceMul, Nat.reduceSub, Nat.reduceBEq, Nat.reduceGT, Nat.reduceLT, Int.reduceLE, Int.reduceLT, Int.reduceNeg, reduceCtorEq]
  exact hh
theorem F50 (h : FsH H F b s) (ok : Ok s) (ho : s.ops < 549755813888) (hw : WrH H w b x) (hFw : ¬ F w) (h0 : ¬ F 0) (ht : CrcTab H)
    (hz : 0 ≤ x.size ∧ x.size < 4611686018427387904) (hd : 0 ≤ x.data ∧ x.data < 4294967296) (k11 : H[c11]? = some (.cells #[ptrOf w] 98)) :
    Fun Tryd.prog 50 #[ptrOf c11] H (fun r H' => r = .int .i64 (endW s x true).2.2.2.2 ∧ ∃ F', FsH H' F' b (endW s x true).1 ∧ WrH H' w b (endW s x true).2.1 ∧ ChX (· = w) F F' H H') := by
  refine fun_of mixed (args := [_]) Tryd.func50 Tryd.ntmps50 b50 r50 rfl ?_
  have q1 : hget H c11 0 = some (ptrOf w) := hget_cells k11
  simp only [ptrOf] at q1
  simp only [go_sem, ↓reduceIte, Nat.reduceEqDiff, Nat.reduceLeDiff, Nat.reduceAdd, Nat.reduceMul, Nat.reduceSub, Nat.reduceBEq, Nat.reduceGT, Nat.reduceLT, Int.reduceLE, Int.reduceLT, Int.reduceNeg, reduceCtorEq, ptrOf, q1]
  refine FunI.by (F51 (sy := true) h ok ho hw hFw h0 ht hz hd) ?_
  rintro _ H1 ⟨rfl, hh⟩
  simp only [go_sem, ↓reduceIte, Nat.reduceEqDiff, Nat.reduceLeDiff, Nat.reduceAdd, Nat.reduceMul, Nat.reduceSub, Nat.reduceBEq, Nat.reduceGT, Nat.reduceLT, Int.reduceLE, Int.reduceLT, Int.reduceNeg, reduceCtorEq]
  exact hh
theorem F52 (h : FsH H F b s) (ok : Ok s) (ho : s.ops < 1099511627776) (k4 : H[c4]? = some (.cells #[ptrOf b] 25)) (k9 : H[c9]? = some (.cells #[.string t] 9)) (k5 : H[c5]? = some (.cells #[.string n] 9)) :
    Fun Tryd.prog 52 #[ptrOf c4, ptrOf c9, ptrOf c5] H (fun r H' => r = .int .i64 (renameS s t n).2 ∧ ∃ F', FsH H' F' b (renameS s t n).1 ∧ Ch F F' H H') := by
  refine fun_of mixed (args := [_, _, _]) Tryd.func52 Tryd.ntmps52 b52 r52 rfl ?_
  have q4 : hget H c4 0 = some (ptrOf b) := hget_cells k4
  have q9 : hget H c9 0 = some (.string t) := hget_cells k9
  have q5 : hget H c5 0 = some (.string n) := hget_cells k5
  obtain ⟨_, _, _, _, _, hP⟩ := h
  simp only [ptrOf] at q4
  simp only [go_sem, ↓reduceIte, Nat.reduceEqDiff, Nat.reduceLeDiff, Nat.reduceAdd, Nat.reduceMul, Nat.reduceSub, Nat.reduceBEq, Nat.reduceGT, Nat.reduceLT, Int.reduceLE, Int.reduceLT, Int.reduceNeg, reduceCtorEq, ptrOf, q4, q9, q5]
  refine FunI.by (F53 hP ok ho t n) ?_
  rintro _ H1 ⟨rfl, hh⟩
  simp only [go_sem, ↓reduceIte, Nat.reduceEqDiff, Nat.reduceLeDiff, Nat.reduceAdd, Nat.reduceMul, Nat.reduceSub, Nat.reduceBEq, Nat.reduceGT, Nat.reduceLT, Int.reduceLE, Int.reduceLT, Int.reduceNeg, reduceCtorEq]
  exact hh
end
end Go.Proofs.YtgigigchjnnonaaDoor
namespace Go.Proofs
open Go.Shelf
def Tryd.cloneP_ren : Go.Shelf.Ren := ⟨fun | 5 => 78 | 7 => 86 | n => n, fun | 23 => 60 | 25 => 9 | 3 => 69 | 4 => 4 | 20 => 20 | n => n, fun | n => n⟩
theorem Tryd.cloneP : Go.Proofs.SlLaysW.n5 Tryd.prog Tryd.cloneP_ren := {
  mixed := by kernel_rfl
  f5 := ⟨Tryd.f78.name, by decide, Tryd.func78.trans (congrArg some (by kernel_rfl))⟩
  f7 := Tryd.func86.trans (congrArg some (by kernel_rfl))
  t4 := Tryd.underlying4
  a4 := Tryd.isAgg4
  z4 := Tryd.sizeOf4
  v4 := Tryd.zeroValue4
  t20 := Tryd.underlying20
  a20 := Tryd.isAgg20
  z20 := Tryd.sizeOf20
  v20 := Tryd.zeroValue20
  t23 := Tryd.underlying60
  a23 := Tryd.isAgg60
  z23 := Tryd.sizeOf60
  v23 := Tryd.zeroValue60 }
end Go.Proofs
namespace Go.Proofs.YtgigigchjnnonaaDoor
open Go Go.V
-- 70: (*pith/fs.FS).settle
-- 54: (*pith/fs.FS).SyncDir
-- 78: maps.Clone[pith/fs.dir,string,*pith/fs.file]
-- 34: (*pith/fs.FS).count
-- 64: fs.FS
-- 9: string
-- 60: fs.dir
-- 61: map[*fs.file]bool
-- 73: fs.file
-- 69: *fs.file
-- 5: uint8
-- 107: func(fs.dir)
section
variable {H H' H2 : Heap} {F F' : Nat → Prop} {b mb lb hb lb' hb' : Nat} {pv pv' : Value} {dv : Nat → Value} {s : St}
theorem F78 {es : Array MapEntry} {c m : Nat} (h : H[m]? = some (.map es c)) : Fun Tryd.prog 78 #[.map (some m)] H (fun r H' => r = .map (some H.size) ∧ H' = H.push (.map es c)) := by
  intro w hw
  subst hw
  refine (show Calls Tryd.prog 78 #[.map (some m)] w _ from AnyW.maps_Clone Tryd.cloneP m es c w h).mono ?_
  rintro e w' ⟨rfl, rfl⟩
  exact ⟨_, rfl, ⟨rfl, rfl, rfl, trivial⟩, rfl, rfl⟩
/-- Settled: a new directory to last, new held ones, nothing that pends. -/
theorem FsP.settled (h : FsP H F b mb lb hb pv dv s) {hs' : List Nat} (hs : H.size ≤ H'.size) (hk : ∀ g, g < H.size → g ≠ b → H'[g]? = H[g]?) (hM : H'[b]? = some (.cells (stC { s with last := s.now, pend := [], held := hs' } mb lb' hb' (.slice none 0 0)) 64))
    (hL : DirH H' lb' s.now) (hH : HeldH H' hb' hs') (l1 : H.size ≤ lb') (l2 : H.size ≤ hb') (hne : lb' ≠ hb') (sub : ∀ f ∈ hs', f ∈ s.held) :
    ∃ F', FsP H' F' b mb lb' hb' (.slice none 0 0) dv { s with last := s.now, pend := [], held := hs' } ∧ Ch F F' H H' := by
  have kc : ∀ (g : Nat) (c : Array Value) (t : TypeId), F g → H[g]? = some (.cells c t) → t ≠ 64 → H'[g]? = H[g]? := fun g c t hg hc ht => hk g (h.lt g hg) (tag_ne hc h.hM ht)
  have km : H'[mb]? = H[mb]? := hk mb (h.lt _ h.fm) (let ⟨_, _, hm⟩ := h.hN.map; (map_ne h.hM hm).symm)
  have e1 := h.lt _ h.fm
  have e2 : lb' < H'.size := hL.lt
  have e3 : hb' < H'.size := let ⟨_, _, hm⟩ := hH.map; (Array.getElem?_eq_some_iff.1 hm).1
  refine ⟨fun g => F g ∨ g = lb' ∨ g = hb', ⟨hM, h.hN.keep km, hL, hH, ⟨[], Own.nil, trivial⟩, fun f hf => ?_, fun f hf g hg => h.dis f (sub f hf) g (sub g hg), ⟨by omega, by omega, hne⟩, .inl h.fb, .inl h.fm, .inr (.inl rfl), .inr (.inr rfl), fun g hg => by simp [blk] at hg, fun g hg => ?_⟩, ⟨hs, fun g hg => ?_, fun g hg hnf => hk g hg fun e => hnf (e ▸ h.fb)⟩⟩
  · have hf' := h.hf f (sub f hf)
    refine hf'.keep (fun _ h => .inl h) (kc f _ _ hf'.1 hf'.2.1 (by decide : 73 ≠ 64)) fun g hg => ?_
    obtain ⟨_, _, c, hc⟩ := hf'.2.2.1.blk hg
    exact kc g _ _ (hf'.2.2.2 g hg) hc (by decide : 5 ≠ 64)
  · rcases hg with hg | rfl | rfl
    · exact Nat.lt_of_lt_of_le (h.lt g hg) hs
    · exact e2
    · exact e3
  · rcases hg with hg | rfl | rfl
    · exact .inl hg
    · exact .inr l1
    · exact .inr l2
theorem put_cell {H : Heap} {b i : Nat} {c : Array Value} {e : TypeId} (h : H[b]? = some (.cells c e)) (hi : i < c.size) (v : Value) : hcan H b i 1 ∧ (hput H b i [v])[b]? = some (.cells (c.setIfInBounds i v) e) := by
  refine ⟨hcan_of h (by omega), ?_⟩
  rw [hput_same h]
  congr 2
  apply Array.ext_getElem?
  intro j
  rw [Array.getElem?_setIfInBounds]
  by_cases hij : i = j
  · subst hij
    have := cput_get_in (c := c) (o := i) (vs := [v]) (j := 0) (by simp; omega) (by simp)
    rw [Nat.add_zero] at this
    rw [this]; simp [hi]
  · rw [cput_get_out (by simp; omega) (by simp; omega), if_neg hij]
open Classical in
theorem settle_held {l : List (Ent Nm)} {l3 : List (Ent Nat)} {c : Nat} {H : Heap} {g : Nat} (s : St) (hg : ∀ n, getM l n = (s.now n).map ptrOf) (hnk : (l.map (·.key)).Nodup) (hv : ∀ e ∈ l, ∃ x, s.now e.key = some x ∧ e.val = ptrOf x) (hn : ∀ m f, s.now m = some f → f ∈ s.held) (hnd : s.held.Nodup) (h3 : MapH ptrOf H g l3 c) (hm : ∀ f, f ∈ l3.map (·.key) ↔ ∃ e ∈ l, e.val = ptrOf f) :
    (l3.map (·.key)).Perm (s.held.filter fun f => decide (∃ n, s.now n = some f)) := by
  refine (List.perm_ext_iff_of_nodup h3.nk (hnd.filter _)).2 fun f => ?_
  rw [hm, List.mem_filter, decide_eq_true_eq]
  constructor
  · rintro ⟨e, he, hf⟩
    obtain ⟨x, h1, h2⟩ := hv e he
    have := ptrOf_inj (h2.symm.trans hf)
    subst this
    exact ⟨hn _ _ h1, _, h1⟩
  · rintro ⟨_, n, hnf⟩
    have : getM l n = some (ptrOf f) := by rw [hg, hnf]; rfl
    obtain ⟨e, he, _, h4⟩ := (getM_mem hnk).1 this
    exact ⟨e, he, h4⟩
set_option maxHeartbeats 3200000 in
theorem F70 (h : FsP H F b mb lb hb pv dv s) (hn : ∀ m f, s.now m = some f → f ∈ s.held) (hnd : s.held.Nodup) :
    Fun Tryd.prog 70 #[ptrOf b] H (fun r H' => ∃ F' lb' hb', FsP H' F' b mb lb' hb' (.slice none 0 0) dv (settleS s) ∧ Ch F F' H H') := by
  refine fun_of mixed (args := [_]) Tryd.func70 Tryd.ntmps70 b70 r70 rfl ?_
  obtain ⟨g0, g1, g2, g3, g4, g5, g6, g7⟩ := h.get
  obtain ⟨l, c, m, hg⟩ := h.hN
  have hv := DirH.vals m hg
  simp only [go_sem, ↓reduceIte, Nat.reduceEqDiff, Nat.reduceLeDiff, Nat.reduceAdd, Nat.reduceMul, Nat.reduceSub, Nat.reduceBEq, Nat.reduceGT, Nat.reduceLT, Int.reduceLE, Int.reduceLT, Int.reduceNeg, reduceCtorEq, ptrOf, g1]
  refine FunI.by (F78 m.hb) ?_
  rintro _ _ ⟨rfl, rfl⟩
  have hbl : b < H.size := h.lt _ h.fb
  have hml := h.lt _ h.fm
  have e1 : (H.push (.map (entsA Value.string l) c))[b]? = some (.cells (stC s mb lb hb pv) 64) := by rw [push_old hbl]; exact h.hM
  have n1 : (H.push (.map (entsA Value.string l) c))[H.size]? = some (.map (entsA Value.string l) c) := push_new
  have k1 : ∀ g, g < H.size → (H.push (.map (entsA Value.string l) c))[g]? = H[g]? := fun g hg => push_old hg
  have s1 : (H.push (.map (entsA Value.string l) c)).size = H.size + 1 := by simp
  obtain ⟨c1, d1⟩ := put_cell e1 (i := 2) (by show 2 < 8; omega) (.map (some H.size))
  obtain ⟨c2, d2⟩ := put_cell d1 (i := 3) (by show 3 < 8; omega) (.slice none 0 0)
  simp only [go_sem, ↓reduceIte, Nat.reduceEqDiff, Nat.reduceLeDiff, Nat.reduceAdd, Nat.reduceMul, Nat.reduceSub, Nat.reduceBEq, Nat.reduceGT, Nat.reduceLT, Int.reduceLE, Int.reduceLT, Int.reduceNeg, reduceCtorEq, c1, c2]
  refine ⟨rfl, rfl, ?_⟩
  have n2 : (hput (hput (H.push (.map (entsA Value.string l) c)) b 2 [.map (some H.size)]) b 3 [.slice none 0 0])[H.size]? = some (.map (entsA Value.string l) c) := by rw [hput_other _ _ _ _ (by omega), hput_other _ _ _ _ (by omega)]; exact n1
  have k2 : ∀ g, g < H.size → g ≠ b → (hput (hput (H.push (.map (entsA Value.string l) c)) b 2 [.map (some H.size)]) b 3 [.slice none 0 0])[g]? = H[g]? := fun g hg hne => by rw [hput_other _ _ _ _ hne, hput_other _ _ _ _ hne]; exact k1 g hg
  have s2 : (hput (hput (H.push (.map (entsA Value.string l) c)) b 2 [.map (some H.size)]) b 3 [.slice none 0 0]).size = H.size + 1 := by rw [hput_size, hput_size]; exact s1
  generalize hput (hput (H.push (.map (entsA Value.string l) c)) b 2 [.map (some H.size)]) b 3 [.slice none 0 0] = H2 at *
  clear n1 k1 s1 d1 c1 c2 e1
  refine RunI.by makeMap_run ?_
  rintro _ _ ⟨rfl, rfl⟩
  have e3 : (H2.push (.map #[] 0))[b]? = some (.cells (((stC s mb lb hb pv).setIfInBounds 2 (.map (some H.size))).setIfInBounds 3 (.slice none 0 0)) 64) := by rw [push_old (by omega)]; exact d2
  have n3 : (H2.push (.map #[] 0))[H.size]? = some (.map (entsA Value.string l) c) := by rw [push_old (by omega)]; exact n2
  have m3 : (H2.push (.map #[] 0))[H.size + 1]? = some (.map #[] 0) := by have := push_new (H := H2) (x := .map #[] 0); rwa [s2] at this
  have k3 : ∀ g, g < H.size → g ≠ b → (H2.push (.map #[] 0))[g]? = H[g]? := fun g hg hne => by rw [push_old (by omega)]; exact k2 g hg hne
  have s3 : (H2.push (.map #[] 0)).size = H.size + 2 := by simp [s2]
  rw [s2]
  obtain ⟨c4, d4⟩ := put_cell e3 (i := 4) (by show 4 < 8; omega) (.map (some (H.size + 1)))
  simp only [go_sem, ↓reduceIte, Nat.reduceEqDiff, Nat.reduceLeDiff, Nat.reduceAdd, Nat.reduceMul, Nat.reduceSub, Nat.reduceBEq, Nat.reduceGT, Nat.reduceLT, Int.reduceLE, Int.reduceLT, Int.reduceNeg, reduceCtorEq, c4]
  refine ⟨rfl, ?_⟩
  have n4 : (hput (H2.push (.map #[] 0)) b 4 [.map (some (H.size + 1))])[H.size]? = some (.map (entsA Value.string l) c) := by rw [hput_other _ _ _ _ (by omega)]; exact n3
  have m4 : (hput (H2.push (.map #[] 0)) b 4 [.map (some (H.size + 1))])[H.size + 1]? = some (.map #[] 0) := by rw [hput_other _ _ _ _ (by omega)]; exact m3
  have k4 : ∀ g, g < H.size → g ≠ b → (hput (H2.push (.map #[] 0)) b 4 [.map (some (H.size + 1))])[g]? = H[g]? := fun g hg hne => by rw [hput_other _ _ _ _ hne]; exact k3 g hg hne
  have s4 : (hput (H2.push (.map #[] 0)) b 4 [.map (some (H.size + 1))]).size = H.size + 2 := by rw [hput_size]; exact s3
  generalize hput (H2.push (.map #[] 0)) b 4 [.map (some (H.size + 1))] = H4 at *
  clear n2 k2 s2 d2 e3 n3 m3 k3 s3 c4
  have hmb : mb ≠ b := let ⟨_, _, hm⟩ := h.hN.map; (map_ne h.hM hm).symm
  have mm4 : MapH Value.string H4 mb l c := m.keep (k4 mb hml hmb)
  have d4' : H4[b]? = some (.cells #[.int .i64 s.room, .map (some mb), .map (some H.size), .slice none 0 0, .map (some (H.size + 1)), .bool s.off, .int .i64 s.fuse, .int .i64 s.ops] 64) := d4
  have l1 : hget H4 b 1 = some (.map (some mb)) := by rw [hget_cells d4']; rfl
  simp only [go_sem, ↓reduceIte, Nat.reduceEqDiff, Nat.reduceLeDiff, Nat.reduceAdd, Nat.reduceMul, Nat.reduceSub, Nat.reduceBEq, Nat.reduceGT, Nat.reduceLT, Int.reduceLE, Int.reduceLT, Int.reduceNeg, reduceCtorEq, l1]
  refine RunI.by (range_run (und_map ty60) mm4) ?_
  rintro _ _ ⟨rfl, rfl⟩
  rw [s4]
  have s5 : (H4.push (.mapIter (some mb) c #[] c)).size = H.size + 3 := by simp [s4]
  have i5 : IterH (H4.push (.mapIter (some mb) c #[] c)) (H.size + 2) mb #[] c := by have := push_new (H := H4) (x := .mapIter (some mb) c #[] c); rwa [s4] at this
  have k5 : ∀ g, g < H.size + 2 → (H4.push (.mapIter (some mb) c #[] c))[g]? = H4[g]? := fun g hg => push_old (by omega)
  generalize H4.push (.mapIter (some mb) c #[] c) = H5 at *
  simp only [go_sem, ↓reduceIte, Nat.reduceEqDiff, Nat.reduceLeDiff, Nat.reduceAdd, Nat.reduceMul, Nat.reduceSub, Nat.reduceBEq, Nat.reduceGT, Nat.reduceLT, Int.reduceLE, Int.reduceLT, Int.reduceNeg, reduceCtorEq]
  have hstf : ∀ f ∈ s.held, ∀ H' : Heap, (∀ g, g < H.size → g ≠ b → H'[g]? = H[g]?) → Stands H' f := fun f hf H' hk => by
    have hf' := h.hf f hf
    exact ⟨_, _, by rw [hk f (h.lt f hf'.1) (tag_ne hf'.2.1 h.hM (by decide : 73 ≠ 64))]; exact hf'.2.1⟩
  refine LoopI.by mixed (fun ρ H' => ∃ (seen : Array Nat) (l3 : List (Ent Nat)) (c3 : Nat), ρ 0 = ptrOf b ∧ ρ 23 = ptrOf (H.size + 2) ∧ IterH H' (H.size + 2) mb seen c ∧ MapH ptrOf H' (H.size + 1) l3 c3 ∧ (∀ f, f ∈ l3.map (·.key) ↔ ∃ e ∈ l, seen.contains e.born = true ∧ e.val = ptrOf f) ∧
    H'[b]? = some (.cells #[.int .i64 s.room, .map (some mb), .map (some H.size), .slice none 0 0, .map (some (H.size + 1)), .bool s.off, .int .i64 s.fuse, .int .i64 s.ops] 64) ∧ H'[H.size]? = some (.map (entsA Value.string l) c) ∧ H'.size = H.size + 3 ∧ ∀ g, g < H.size → g ≠ b → H'[g]? = H[g]?) (fun _ H' => leftN H' (H.size + 2) mb) ?_ ?_
  · exact ⟨#[], [], 0, by simp only [go_sem, ↓reduceIte, Nat.reduceEqDiff, Nat.reduceLeDiff, Nat.reduceAdd, Nat.reduceMul, Nat.reduceSub, Nat.reduceBEq, Nat.reduceGT, Nat.reduceLT, Int.reduceLE, Int.reduceLT, Int.reduceNeg, reduceCtorEq, ptrOf], by simp only [go_sem, ↓reduceIte, Nat.reduceEqDiff, Nat.reduceLeDiff, Nat.reduceAdd, Nat.reduceMul, Nat.reduceSub, Nat.reduceBEq, Nat.reduceGT, Nat.reduceLT, Int.reduceLE, Int.reduceLT, Int.reduceNeg, reduceCtorEq], i5, ⟨by rw [k5 _ (by omega)]; exact m4, by simp, by simp, by simp⟩, fun f => by simp, by rw [k5 _ (by omega)]; exact d4', by rw [k5 _ (by omega)]; exact n4, s5, fun g hg hne => by rw [k5 g (by omega)]; exact k4 g hg hne⟩
  clear n4 m4 k4 s4 d4 d4' l1 mm4 k5 i5 s5
  rintro ρ H6 ⟨seen, l3, c3, e0, e23, hi, m3, hmem, hM6, hL6, hsz, hk⟩
  have mm : MapH Value.string H6 mb l c := m.keep (hk mb hml hmb)
  have hmu := leftN_eq mm hi
  simp only [go_sem, ↓reduceIte, Nat.reduceEqDiff, Nat.reduceLeDiff, Nat.reduceAdd, Nat.reduceMul, Nat.reduceSub, Nat.reduceBEq, Nat.reduceGT, Nat.reduceLT, Int.reduceLE, Int.reduceLT, Int.reduceNeg, reduceCtorEq, c70_L0, e23]
  refine RunI.by (next_run mm hi) ?_
  rintro _ _ (⟨rfl, rfl, hu⟩ | ⟨e, he, rfl, rfl⟩)
  · have hall : ∀ e ∈ l, seen.contains e.born = true := fun e he => by
      cases hs : seen.contains e.born with
      | true => rfl
      | false => have := mem_unseen.2 ⟨he, hs⟩; rw [hu] at this; cases this
    have hperm := settle_held s hg m.nk hv hn hnd m3 fun f => (hmem f).trans ⟨fun ⟨e, h1, _, h2⟩ => ⟨e, h1, h2⟩, fun ⟨e, h1, h2⟩ => ⟨e, h1, hall e h1, h2⟩⟩
    obtain ⟨F', hf, hch⟩ := h.settled (lb' := H.size) (hb' := H.size + 1) (hs' := s.held.filter fun f => @decide (∃ n, s.now n = some f) (Classical.propDecidable _)) (by omega) hk (by exact hM6) ⟨l, c, ⟨hL6, m.old, m.nb, m.nk⟩, hg⟩ ⟨l3, c3, m3, hperm⟩ (Nat.le_refl _) (by omega) (by omega) (fun f hf => (List.mem_filter.1 hf).1)
    simp only [go_sem, ↓reduceIte, Nat.reduceEqDiff, Nat.reduceLeDiff, Nat.reduceAdd, Nat.reduceMul, Nat.reduceSub, Nat.reduceBEq, Nat.reduceGT, Nat.reduceLT, Int.reduceLE, Int.reduceLT, Int.reduceNeg, reduceCtorEq]
    exact ⟨F', _, _, hf, hch⟩
  · obtain ⟨hel, hes⟩ := mem_unseen.1 he
    obtain ⟨z, hz1, hz2⟩ := hv e hel
    have hlen := (unseen_push l mm.nb seen he).length_eq
    have m2 : MapH Value.string (H6.setIfInBounds (H.size + 2) (.mapIter (some mb) c (seen.push e.born) c)) mb l c := mm.keep (by rw [Array.getElem?_setIfInBounds, if_neg (by omega)])
    have i2 : IterH (H6.setIfInBounds (H.size + 2) (.mapIter (some mb) c (seen.push e.born) c)) (H.size + 2) mb (seen.push e.born) c := by
      unfold IterH; rw [Array.getElem?_setIfInBounds, if_pos rfl, if_pos (by omega)]
    have k2 : ∀ g, g < H.size + 2 → (H6.setIfInBounds (H.size + 2) (.mapIter (some mb) c (seen.push e.born) c))[g]? = H6[g]? := fun g hg => by rw [Array.getElem?_setIfInBounds, if_neg (by omega)]
    have s2 : (H6.setIfInBounds (H.size + 2) (.mapIter (some mb) c (seen.push e.born) c)).size = H6.size := by simp
    generalize H6.setIfInBounds (H.size + 2) (.mapIter (some mb) c (seen.push e.born) c) = H7 at *
    have m3' : MapH ptrOf H7 (H.size + 1) l3 c3 := m3.keep (k2 _ (by omega))
    have hM7 : H7[b]? = _ := (k2 b (by omega)).trans hM6
    have l4 : hget H7 b 4 = some (.map (some (H.size + 1))) := by rw [hget_cells hM7]; rfl
    simp only [go_sem, ↓reduceIte, Nat.reduceEqDiff, Nat.reduceLeDiff, Nat.reduceAdd, Nat.reduceMul, Nat.reduceSub, Nat.reduceBEq, Nat.reduceGT, Nat.reduceLT, Int.reduceLE, Int.reduceLT, Int.reduceNeg, reduceCtorEq, e23]
    refine OpSI.value (entry_run m2 i2 hel) ?_
    rintro _ _ ⟨rfl, rfl⟩
    have hk7 : ∀ g, g < H.size → g ≠ b → H7[g]? = H[g]? := fun g hg hne => by rw [k2 g (by omega)]; exact hk g hg hne
    obtain ⟨j, hj1, hj2⟩ := info_ty ty73
    simp only [go_sem, ↓reduceIte, Nat.reduceEqDiff, Nat.reduceLeDiff, Nat.reduceAdd, Nat.reduceMul, Nat.reduceSub, Nat.reduceBEq, Nat.reduceGT, Nat.reduceLT, Int.reduceLE, Int.reduceLT, Int.reduceNeg, reduceCtorEq, e0, ptrOf, l4, hz2]
    refine OpSI.skip (update_run (keyed_ptr (und_ptr ty69) hj1 (by rw [hj2]; decide)) (und_map ty61) m3' z (.bool true) (hstf z (hn _ _ hz1) H7 hk7) fun y hy => ?_) ?_
    · obtain ⟨e', he', _, hv'⟩ := (hmem y.key).1 (List.mem_map.2 ⟨y, hy, rfl⟩)
      obtain ⟨z', h1, h2⟩ := hv e' he'
      have := ptrOf_inj (h2.symm.trans hv')
      subst this
      exact hstf _ (hn _ _ h1) H7 hk7
    · rintro H8 ⟨c8, m8, s8, k8⟩
      simp only [go_sem, ↓reduceIte, Nat.reduceEqDiff, Nat.reduceLeDiff, Nat.reduceAdd, Nat.reduceMul, Nat.reduceSub, Nat.reduceBEq, Nat.reduceGT, Nat.reduceLT, Int.reduceLE, Int.reduceLT, Int.reduceNeg, reduceCtorEq]
      have i8 : IterH H8 (H.size + 2) mb (seen.push e.born) c := by unfold IterH; rw [k8 _ (by omega)]; exact i2
      have mm8 : MapH Value.string H8 mb l c := m2.keep (k8 _ (by omega))
      refine ⟨Hold.mk ⟨seen.push e.born, _, c8, by simp only [go_sem, ↓reduceIte, Nat.reduceEqDiff, Nat.reduceLeDiff, Nat.reduceAdd, Nat.reduceMul, Nat.reduceSub, Nat.reduceBEq, Nat.reduceGT, Nat.reduceLT, Int.reduceLE, Int.reduceLT, Int.reduceNeg, reduceCtorEq, e0, ptrOf], by simp only [go_sem, ↓reduceIte, Nat.reduceEqDiff, Nat.reduceLeDiff, Nat.reduceAdd, Nat.reduceMul, Nat.reduceSub, Nat.reduceBEq, Nat.reduceGT, Nat.reduceLT, Int.reduceLE, Int.reduceLT, Int.reduceNeg, reduceCtorEq, e23], i8, m8, fun f => ?_, by rw [k8 _ (by omega)]; exact hM7, by rw [k8 _ (by omega), k2 _ (by omega)]; exact hL6, by omega, fun g hg hne => by rw [k8 _ (by omega)]; exact hk7 g hg hne⟩, ?_⟩
      · have hin : f ∈ (setM l3 c3 z (.bool true)).map (·.key) ↔ f ∈ l3.map (·.key) ∨ f = z := by
          rw [keys_set]
          split
          · rename_i hz; exact ⟨.inl, fun h => h.elim id fun h => h ▸ hz⟩
          · simp
        rw [hin, hmem]
        constructor
        · rintro (⟨y, h1, h2, h3⟩ | rfl)
          · exact ⟨y, h1, by rw [contains_push, h2]; rfl, h3⟩
          · exact ⟨e, hel, by rw [contains_push]; simp, hz2⟩
        · rintro ⟨y, h1, h2, h3⟩
          rw [contains_push, Bool.or_eq_true, beq_iff_eq] at h2
          rcases h2 with h2 | h2
          · exact .inl ⟨y, h1, h2, h3⟩
          · have := nodup_map_inj m.nb h1 hel h2
            subst this
            exact .inr (ptrOf_inj (h3.symm.trans hz2))
      · rw [leftN_eq mm8 i8, hmu, hlen]
        simp
set_option maxHeartbeats 800000 in
theorem F54 (h : FsP H F b mb lb hb pv dv s) (ok : Ok s) (hn : s.ops < 1099511627776) :
    Fun Tryd.prog 54 #[ptrOf b] H (fun r H' => r = .int .i64 (syncDirS s).2 ∧ ∃ F', FsH H' F' b (syncDirS s).1 ∧ Ch F F' H H') := by
  refine fun_of mixed (args := [_]) Tryd.func54 Tryd.ntmps54 b54 r54 rfl ?_
  obtain ⟨g0, g1, g2, g3, g4, g5, g6, g7⟩ := h.get
  have N := ok.num hn
  cases c1 : s.off with
  | true =>
    have e : syncDirS s = (s, 81) := by unfold syncDirS; rw [c1, if_pos rfl]
    rw [e]
    rw [c1] at g5
    simp only [go_sem, ↓reduceIte, Nat.reduceEqDiff, Nat.reduceLeDiff, Nat.reduceAdd, Nat.reduceMul, Nat.reduceSub, Nat.reduceBEq, Nat.reduceGT, Nat.reduceLT, Int.reduceLE, Int.reduceLT, Int.reduceNeg, reduceCtorEq, ptrOf, g5]
    exact ⟨F, ⟨_, _, _, _, _, h⟩, Ch.refl _ _⟩
  | false =>
    rw [c1] at g5
    simp only [go_sem, ↓reduceIte, Nat.reduceEqDiff, Nat.reduceLeDiff, Nat.reduceAdd, Nat.reduceMul, Nat.reduceSub, Nat.reduceBEq, Nat.reduceGT, Nat.reduceLT, Int.reduceLE, Int.reduceLT, Int.reduceNeg, reduceCtorEq, ptrOf, g5]
    refine FunI.by (F34 h N.fuse ⟨N.ops.1, by have := N.ops; omega⟩) ?_
    rintro _ H2 ⟨rfl, h2, ch2⟩
    obtain ⟨_, en, _, _, eh, _⟩ := count_same s
    by_cases c0 : (countS s).2 = 0
    · have e : syncDirS s = (settleS (countS s).1, 0) := by unfold syncDirS; rw [c1, if_neg (by simp), if_pos c0]
      rw [e]
      simp only [go_sem, ↓reduceIte, Nat.reduceEqDiff, Nat.reduceLeDiff, Nat.reduceAdd, Nat.reduceMul, Nat.reduceSub, Nat.reduceBEq, Nat.reduceGT, Nat.reduceLT, Int.reduceLE, Int.reduceLT, Int.reduceNeg, reduceCtorEq, c0]
      refine FunI.by (F70 h2 (by rw [en, eh]; exact ok.nowH) (by rw [eh]; exact ok.nd)) ?_
      rintro r3 H3 ⟨F', lb', hb', h3, ch3⟩
      simp only [go_sem, ↓reduceIte, Nat.reduceEqDiff, Nat.reduceLeDiff, Nat.reduceAdd, Nat.reduceMul, Nat.reduceSub, Nat.reduceBEq, Nat.reduceGT, Nat.reduceLT, Int.reduceLE, Int.reduceLT, Int.reduceNeg, reduceCtorEq]
      exact ⟨F', ⟨_, _, _, _, _, h3⟩, ch2.trans ch3⟩
    · have e : syncDirS s = countS s := by unfold syncDirS; rw [c1, if_neg (by simp), if_neg c0]
      rw [e]
      simp only [go_sem, ↓reduceIte, Nat.reduceEqDiff, Nat.reduceLeDiff, Nat.reduceAdd, Nat.reduceMul, Nat.reduceSub, Nat.reduceBEq, Nat.reduceGT, Nat.reduceLT, Int.reduceLE, Int.reduceLT, Int.reduceNeg, reduceCtorEq, c0]
      exact ⟨F, ⟨_, _, _, _, _, h2⟩, ch2⟩
end
end Go.Proofs.YtgigigchjnnonaaDoor
