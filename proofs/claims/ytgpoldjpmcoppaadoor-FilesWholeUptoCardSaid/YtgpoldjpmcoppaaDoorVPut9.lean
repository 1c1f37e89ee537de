/- The laws' put: a file written by the program. -/
import Derived.Test.YtgpoldjpmcoppaaDoorVPln9b
set_option linter.unusedSimpArgs false
set_option linter.unusedVariables false
set_option maxRecDepth 20000
namespace Go.Proofs.YtgpoldjpmcoppaaDoor
open Go Go.V
-- 12: pith/pithlaw9.put
-- 24: pith/files.Begin
-- 25: (*pith/files.Writer).Put
-- 26: (*pith/files.Writer).End
-- 16: (*pith/fs.FS).Size
-- 19: pith/pithlaw9.num
-- 27: pith/pithlaw9.sumOf
-- 22: []uint8
-- 23: [][]uint8
-- 5: uint8
/-- Bytes that stand away from a file system. -/
def Aw (H : Heap) (F : Nat → Prop) (K : Nat) (u : Value) (p : List Int) : Prop := Ints H 5 .u8 u p ∧ (p = [] ∨ ∀ g, blk u = some g → ¬ F g ∧ g < K)
structure AwL (H : Heap) (F : Nat → Prop) (K : Nat) (v : Value) (vs : List Value) (l : List (List Int)) : Prop where
  sl : Sl H 22 1 v vs
  aw : vs = [] ∨ ∀ g, blk v = some g → ¬ F g ∧ g < K
  all : All2 (fun u p => Aw H F K u p) vs l
theorem AwL.lists {H : Heap} {F : Nat → Prop} {K : Nat} {v : Value} {vs : List Value} {l : List (List Int)} (h : AwL H F K v vs l) : Lists H 22 5 v l := ⟨vs, h.sl, h.all.mono fun _ _ h => h.1⟩
theorem Aw.keep {X F F' : Nat → Prop} {H H' : Heap} {K : Nat} {u : Value} {p : List Int} (h : Aw H F K u p) (cx : ChX X F F' H H') (hX : ∀ g, X g → K ≤ g) (hK : K ≤ H.size) : Aw H' F' K u p := by
  refine ⟨cx.ints h.1 (h.2.imp id fun h g hg => ⟨(h g hg).1, fun e => ?_⟩), h.2.imp id fun h g hg => ⟨cx.not (by have := (h g hg).2; omega) (h g hg).1, (h g hg).2⟩⟩
  have := hX g e
  have := (h g hg).2
  omega
theorem AwL.keep {X F F' : Nat → Prop} {H H' : Heap} {K : Nat} {v : Value} {vs : List Value} {l : List (List Int)} (h : AwL H F K v vs l) (cx : ChX X F F' H H') (hX : ∀ g, X g → K ≤ g) (hK : K ≤ H.size) : AwL H' F' K v vs l := by
  refine ⟨?_, h.aw.imp id fun h g hg => ⟨cx.not (by have := (h g hg).2; omega) (h g hg).1, (h g hg).2⟩, h.all.mono fun _ _ h => h.keep cx hX hK⟩
  rcases h.aw with hv | hv
  · have hs := h.sl
    obtain ⟨a, len, cap, rfl, hc, hl, hd⟩ := hs
    refine ⟨a, len, cap, rfl, hc, hl, .inl ?_⟩
    rw [hv] at hl; simp at hl; omega
  · exact cx.sl h.sl fun g hg => ⟨(hv g hg).1, fun e => by have := hX g e; have := (hv g hg).2; omega⟩
/-- A file system in memory where nothing fails. -/
structure Stg (H : Heap) (F : Nat → Prop) (b : Nat) (s : St) : Prop where
  fs : FsH H F b s
  pc : Peace s
  f0 : ¬ F 0
  crc : CrcTab H
theorem rowB_len {r : List (Int × List Int)} (h : ∀ f ∈ r, f.2.length ≤ 1024) : (rowB r).length ≤ r.length * 1036 := by
  induction r with
  | nil => simp [rowB]
  | cons f r ih =>
    have h1 := h f List.mem_cons_self
    have h2 := ih fun y hy => h y (List.mem_cons_of_mem _ hy)
    obtain ⟨k, p⟩ := f
    rw [rowB_cons, List.length_append, encL_len]
    simp only [List.length_cons, Nat.succ_mul] at h1 ⊢
    omega
def rowI (hd : List Int) (l : List (List Int)) : List (Int × List Int) := (1, hd) :: l.map (fun p => (2, p))
theorem rowI_snoc (hd : List Int) (l : List (List Int)) (p : List Int) : rowI hd (l ++ [p]) = rowI hd l ++ [(2, p)] := by simp [rowI]
theorem rowI_len {hd : List Int} {l : List (List Int)} (h1 : hd.length ≤ 1024) (h2 : ∀ x ∈ l, x.length ≤ 1024) : (rowB (rowI hd l)).length ≤ (l.length + 1) * 1036 := by
  have := rowB_len (r := rowI hd l) (by
    intro f hf
    rcases List.mem_cons.1 hf with rfl | hf
    · exact h1
    · obtain ⟨p, hp, rfl⟩ := List.mem_map.1 hf
      exact h2 p hp)
  simpa [rowI] using this
/-- The writer behind its head and payloads. -/
def wrI (n : Nm) (hd : List Int) (l : List (List Int)) : WrS := { name := n, size := (rowB (rowI hd l)).length, sum := crcW 0#32 (hd ++ l.flatten), data := l.length, over := false }
/-- The state behind a Create, and so many frames. -/
def stI (s : St) (n : Nm) (f : Nat) (hd : List Int) (l : List (List Int)) : St :=
  { s with ops := s.ops + (2 + l.length), now := moveD s.now f n, pend := s.pend ++ [(f, n)], held := s.held ++ [f], dat := setF s.dat f (rowB (rowI hd l)), syn := setF s.syn f 0 }
theorem setF_setF {α : Type} (f : Nat → α) (x : Nat) (a b : α) : setF (setF f x a) x b = setF f x b := by
  funext y; unfold setF; split <;> rfl
theorem heldS_ops (s : St) (n : Int) : heldS { s with ops := n } = heldS s := rfl
/-- Begin, where nothing fails. -/
theorem begin_peace {s : St} (h : Peace s) {n : Nm} {f : Nat} (hn : isNm n = true) (hx : s.now n = none) (hf : f ∉ s.held) {hd : List Int} (hl : hd.length ≤ 1024) (hb : Byt hd) (hr : heldS s + (12 + hd.length) ≤ s.room) :
    beginW s n f hd = (stI s n f hd [], wrI n hd [], 0) ∧ Peace (stI s n f hd []) ∧ heldS (stI s n f hd []) = heldS s + (rowB (rowI hd [])).length ∧ (stI s n f hd []).now n = some f := by
  have hc := create_calm h hn (x := f) hx
  have hok := create_ok h.ok n hf
  have hp1 : Peace (createS s n f).1 := ⟨hok, by rw [hc]; exact h.on, by rw [hc]; exact h.arm⟩
  have hh : heldS (createS s n f).1 = heldS s := by
    rw [hc]
    unfold heldS
    simp only [List.map_append, List.sum_append, List.map_cons, List.map_nil, List.sum_cons, List.sum_nil, setF_same, List.length_nil]
    have : (s.held.map fun g => ((setF s.dat f [] g).length : Int)) = s.held.map fun g => ((s.dat g).length : Int) := by
      apply List.map_congr_left
      intro g hg
      rw [setF_ne _ _ _ (by rintro rfl; exact hf hg)]
    rw [this]; simp
  have hnow : (createS s n f).1.now n = some f := by rw [hc]; exact move_same (isNm_ne hn)
  obtain ⟨s', e1, e2, e3, e4, e5⟩ := put_calm (w := newW n) (x := f) (r := []) hp1 ⟨hnow, by rw [hc]; simp only; rw [setF_same]; rfl, rfl⟩ (k := 1) (p := hd) (by omega) hl hb (by rw [hh, hc]; simp only; omega)
  have es : s' = stI s n f hd [] := by
    rw [e2, hc]
    unfold stI rowI
    simp only [setF_setF, List.nil_append, List.map_nil, List.length_nil]
    congr 1
    omega
  have ew : ({ newW n with size := (newW n).size + (12 + (hd.length : Int)), sum := if (1 : Int) = 3 then (newW n).sum else crcW (newW n).sum hd } : WrS) = wrI n hd [] := by
    unfold wrI newW rowI
    simp only [List.map_nil, List.flatten_nil, List.append_nil, List.length_nil]
    congr 1
    · simp [rowB, encL_len]
  subst es
  refine ⟨?_, e3, ?_, e5.now⟩
  · unfold beginW
    rw [if_neg (by omega), if_neg (by rw [hc]; simp), e1, ew]
  · rw [e4, hh]
    simp [rowI, rowB, encL_len]
theorem stI_held {s : St} {n : Nm} {f : Nat} (hf : f ∉ s.held) (hd : List Int) (l : List (List Int)) : heldS (stI s n f hd l) = heldS s + (rowB (rowI hd l)).length := by
  unfold heldS stI
  simp only [List.map_append, List.sum_append, List.map_cons, List.map_nil, List.sum_cons, List.sum_nil, setF_same]
  have : (s.held.map fun g => ((setF s.dat f (rowB (rowI hd l)) g).length : Int)) = s.held.map fun g => ((s.dat g).length : Int) := by
    apply List.map_congr_left
    intro g hg
    rw [setF_ne _ _ _ (by rintro rfl; exact hf hg)]
  rw [this]; simp
/-- In the midst of a file. -/
structure InS (s : St) (n : Nm) (f : Nat) (hd : List Int) (l : List (List Int)) : Prop where
  pc : Peace (stI s n f hd l)
  now : (stI s n f hd l).now n = some f
theorem putW_peace {s : St} {n : Nm} {f : Nat} {hd : List Int} {l : List (List Int)} (h : InS s n f hd l) (hf : f ∉ s.held) {p : List Int} (hp : p.length ≤ 1024) (hb : Byt p) (hr : heldS s + (rowB (rowI hd l)).length + (12 + p.length) ≤ s.room) :
    putW (stI s n f hd l) (wrI n hd l) p = (stI s n f hd (l ++ [p]), wrI n hd (l ++ [p]), 0) ∧ InS s n f hd (l ++ [p]) := by
  have hh := stI_held (n := n) hf hd l
  have hroom : (stI s n f hd l).room = s.room := rfl
  obtain ⟨s', e1, e2, e3, e4, e5⟩ := put_calm (w := wrI n hd l) (x := f) (r := rowI hd l) h.pc ⟨h.now, by unfold stI; simp only; rw [setF_same], rfl⟩ (k := 2) (p := p) (by omega) hp hb (by rw [hh, hroom]; omega)
  have es : s' = stI s n f hd (l ++ [p]) := by
    rw [e2, ← rowI_snoc]
    unfold stI
    simp only [setF_setF, List.length_append, List.length_cons, List.length_nil]
    congr 1
    omega
  subst es
  refine ⟨?_, e3, e5.now⟩
  unfold putW
  rw [if_neg (by simp [wrI]), e1]
  simp only [if_true]
  congr 1
  congr 1
  unfold wrI
  simp only [rowI_snoc, rowB_snoc, List.length_append, encL_len, List.flatten_append, List.flatten_cons, List.flatten_nil, List.append_nil, List.length_cons, List.length_nil]
  rw [if_neg (by decide), ← List.append_assoc, crcW_app]
  have ez : ((rowB (rowI hd l)).length : Int) + (12 + (p.length : Int)) = (((rowB (rowI hd l)).length + (12 + p.length) : Nat) : Int) := by omega
  rw [ez, crcW_app _ (hd ++ l.flatten), crcW_app _ hd]
  rfl
/-- The state behind a file written whole. -/
def doneS (s : St) (n : Nm) (f : Nat) (hd : List Int) (l : List (List Int)) (sy : Bool) : St :=
  { s with ops := s.ops + (if sy then 4 + l.length else 3 + l.length), now := moveD s.now f n, pend := s.pend ++ [(f, n)], held := s.held ++ [f], dat := setF s.dat f (rowB (fileR hd l)), syn := setF s.syn f (if sy then (rowB (fileR hd l)).length else 0) }
theorem fileR_eq (hd : List Int) (l : List (List Int)) : fileR hd l = rowI hd l ++ [(3, be4 l.length)] := rfl
theorem file_len {hd : List Int} {l : List (List Int)} (h1 : hd.length ≤ 1024) (h2 : ∀ x ∈ l, x.length ≤ 1024) : (rowB (fileR hd l)).length = (rowB (rowI hd l)).length + 16 ∧ (rowB (fileR hd l)).length ≤ (l.length + 1) * 1036 + 16 := by
  have := rowI_len h1 h2
  rw [fileR_eq, rowB_snoc, List.length_append, encL_len]
  have : (be4 (l.length : Int)).length = 4 := rfl
  omega
theorem doneS_held {s : St} {n : Nm} {f : Nat} (hf : f ∉ s.held) (hd : List Int) (l : List (List Int)) (sy : Bool) : heldS (doneS s n f hd l sy) = heldS s + (rowB (fileR hd l)).length := by
  unfold heldS doneS
  simp only [List.map_append, List.sum_append, List.map_cons, List.map_nil, List.sum_cons, List.sum_nil, setF_same]
  have : (s.held.map fun g => ((setF s.dat f (rowB (fileR hd l)) g).length : Int)) = s.held.map fun g => ((s.dat g).length : Int) := by
    apply List.map_congr_left
    intro g hg
    rw [setF_ne _ _ _ (by rintro rfl; exact hf hg)]
  rw [this]; simp
theorem endW_peace {s : St} {n : Nm} {f : Nat} {hd : List Int} {l : List (List Int)} (h : InS s n f hd l) (hf : f ∉ s.held) (sy : Bool) (hr : heldS s + (rowB (rowI hd l)).length + 16 ≤ s.room) :
    endW (stI s n f hd l) (wrI n hd l) sy = (doneS s n f hd l sy, { wrI n hd l with size := (rowB (fileR hd l)).length, over := true }, ((rowB (fileR hd l)).length : Int), crcW 0#32 (hd ++ l.flatten), 0) ∧ Peace (doneS s n f hd l sy) ∧ (doneS s n f hd l sy).now n = some f := by
  have hh := stI_held (n := n) hf hd l
  have hroom : (stI s n f hd l).room = s.room := rfl
  have h4 : (be4 (l.length : Int)).length = 4 := rfl
  obtain ⟨s', e1, e2, e3, e4, e5⟩ := put_calm (w := wrI n hd l) (x := f) (r := rowI hd l) h.pc ⟨h.now, by unfold stI; simp only; rw [setF_same], rfl⟩ (k := 3) (p := be4 l.length) (by omega) (by omega) (be4_byt _) (by rw [hh, hroom, h4]; omega)
  have es : s' = doneS s n f hd l false := by
    rw [e2]
    unfold stI doneS
    simp only [setF_setF, Bool.false_eq_true, if_false]
    congr 1
    omega
  have esz : (wrI n hd l).size + (12 + ((be4 (l.length : Int)).length : Int)) = (rowB (fileR hd l)).length := by
    rw [fileR_eq, rowB_snoc, List.length_append, encL_len]
    show ((rowB (rowI hd l)).length : Int) + _ = _
    omega
  subst es
  have e5n : (doneS s n f hd l false).now n = some f := e5.now
  have edat : (doneS s n f hd l false).dat f = rowB (fileR hd l) := setF_same _ _ _
  have hdw : (wrI n hd l).data = l.length := rfl
  have hsw : (wrI n hd l).sum = crcW 0#32 (hd ++ l.flatten) := rfl
  cases sy with
  | false =>
    refine ⟨?_, e3, e5n⟩
    unfold endW
    rw [if_neg (by simp [wrI]), hdw, e1, esz]
    simp [hsw]
  | true =>
    have hsy := sync_calm e3 e5n
    have hok := sync_ok e3.ok n
    rw [hsy] at hok
    have hd2 : ({ doneS s n f hd l false with ops := (doneS s n f hd l false).ops + 1, syn := setF (doneS s n f hd l false).syn f ((doneS s n f hd l false).dat f).length } : St) = doneS s n f hd l true := by
      rw [edat]
      unfold doneS
      simp only [setF_setF, Bool.false_eq_true, if_false, if_true]
      congr 1
      omega
    rw [hd2] at hsy hok
    refine ⟨?_, ⟨hok, e3.on, e3.arm⟩, e5n⟩
    unfold endW
    rw [if_neg (by simp [wrI]), hdw, e1, esz]
    simp only [and_self, if_true]
    rw [show (wrI n hd l).name = n from rfl, hsy]
    simp [hsw]
theorem AwL.form {H : Heap} {F : Nat → Prop} {K : Nat} {v : Value} {vs : List Value} {l : List (List Int)} (h : AwL H F K v vs l) : ∃ a cap, v = .slice a l.length cap := h.lists.form
theorem AwL.at {H : Heap} {F : Nat → Prop} {K : Nat} {a : Option Addr} {len cap : Nat} {vs : List Value} {l : List (List Int)} (h : AwL H F K (.slice a len cap) vs l) {i : Nat} (hi : i < l.length) :
    ∃ b o, a = some ⟨b, o, none⟩ ∧ ∃ u, hget H b (o + i) = some u ∧ Aw H F K u (l.getD i []) := by
  have hl := Sl.length h.sl
  have h2 := h.all.length
  obtain ⟨b, o, rfl⟩ := Sl.at h.sl (by omega)
  obtain ⟨u, hu, ha⟩ := h.all.get (List.getElem?_eq_getElem hi)
  refine ⟨b, o, rfl, u, ?_, ?_⟩
  · rw [Sl.get h.sl (by omega)]; exact hu
  · rw [List.getD_eq_getElem?_getD, List.getElem?_eq_getElem hi]; exact ha
theorem take_getD {α : Type} {l : List α} {i : Nat} (hi : i < l.length) (d : α) : l.take (i + 1) = l.take i ++ [l.getD i d] := by
  rw [List.take_succ_eq_append_getElem hi, List.getD_eq_getElem?_getD, List.getElem?_eq_getElem hi]; rfl
set_option maxHeartbeats 3200000 in
theorem F12 {H : Heap} {F : Nat → Prop} {b : Nat} {s : St} {n : Nm} {u v : Value} {hd : List Int} {vs : List Value} {l : List (List Int)} (h : Stg H F b s) (hn : isNm n = true) (hx : s.now n = none) (ho : s.ops < 1000000000)
    (hu : Aw H F H.size u hd) (hv : AwL H F H.size v vs l) (hb : Byt hd) (hbl : ∀ x ∈ l, Byt x) (h1 : hd.length ≤ 1024) (h2 : ∀ x ∈ l, x.length ≤ 1024) (h3 : l.length ≤ 40) (hr : heldS s + 50000 ≤ s.room) :
    Fun Tryd.prog 12 #[ptrOf b, .string n, u, v] H (fun r H' => r = .bool true ∧ ∃ f F', f ∉ s.held ∧ Stg H' F' b (doneS s n f hd l true) ∧ (doneS s n f hd l true).now n = some f ∧ ChX (fun _ => False) F F' H H') := by
  obtain ⟨a, c, rfl⟩ := hv.form
  obtain ⟨a', c', rfl⟩ := hu.1.form
  refine fun_of mixed (args := [_, _, _, _]) Tryd.func12 Tryd.ntmps12 b12 r12 rfl ?_
  simp only [go_sem, ↓reduceIte, Nat.reduceEqDiff, Nat.reduceLeDiff, Nat.reduceAdd, Nat.reduceMul, Nat.reduceSub, Nat.reduceBEq, Nat.reduceGT, Nat.reduceLT, Int.reduceLE, Int.reduceLT, Int.reduceNeg, reduceCtorEq, ptrOf]
  refine FunI.by (F24' h.fs h.pc.ok (by omega) h.f0 h.crc hu.1 hb (by omega) hu.2) ?_
  rintro _ H1 ⟨f, hf, F1, hf1, cx1, hr1⟩
  obtain ⟨bp1, bp2, bp3, bp4⟩ := begin_peace h.pc hn hx hf h1 hb (by omega)
  rw [bp1] at hf1 hr1
  simp only [if_true] at hf1 hr1
  obtain ⟨w, rfl, hw, hFw, hwr⟩ := hr1
  simp only [go_sem, ↓reduceIte, Nat.reduceEqDiff, Nat.reduceLeDiff, Nat.reduceAdd, Nat.reduceMul, Nat.reduceSub, Nat.reduceBEq, Nat.reduceGT, Nat.reduceLT, Int.reduceLE, Int.reduceLT, Int.reduceNeg, reduceCtorEq, ptrOf]
  refine FunI.by (F19 _ _) ?_
  rintro _ _ ⟨rfl, rfl⟩
  simp only [go_sem, ↓reduceIte, Nat.reduceEqDiff, Nat.reduceLeDiff, Nat.reduceAdd, Nat.reduceMul, Nat.reduceSub, Nat.reduceBEq, Nat.reduceGT, Nat.reduceLT, Int.reduceLE, Int.reduceLT, Int.reduceNeg, reduceCtorEq]
  have hsz := cx1.size
  have fl := file_len h1 h2
  have h0lt : 0 < H.size := by obtain ⟨t, fr, ht⟩ := h.crc; exact (Array.getElem?_eq_some_iff.1 ht).1
  refine LoopI.by mixed (fun ρ H' => ∃ (i : Nat) (F' : Nat → Prop), ρ 0 = ptrOf b ∧ ρ 1 = .string n ∧ ρ 2 = .slice a' hd.length c' ∧ ρ 3 = .slice a l.length c ∧ ρ 9 = ptrOf w ∧ ρ 11 = .int .i64 i ∧ i ≤ l.length ∧
      FsH H' F' b (stI s n f hd (l.take i)) ∧ InS s n f hd (l.take i) ∧ WrH H' w b (wrI n hd (l.take i)) ∧ ¬ F' w ∧ ChX (fun _ => False) F F' H H') (fun ρ _ => l.length - (iof (ρ 11)).toNat) ?_ ?_
  · exact ⟨0, F1, by simp only [go_sem, ↓reduceIte, Nat.reduceEqDiff, Nat.reduceLeDiff, Nat.reduceAdd, Nat.reduceMul, Nat.reduceSub, Nat.reduceBEq, Nat.reduceGT, Nat.reduceLT, Int.reduceLE, Int.reduceLT, Int.reduceNeg, reduceCtorEq, ptrOf], by simp only [go_sem, ↓reduceIte, Nat.reduceEqDiff, Nat.reduceLeDiff, Nat.reduceAdd, Nat.reduceMul, Nat.reduceSub, Nat.reduceBEq, Nat.reduceGT, Nat.reduceLT, Int.reduceLE, Int.reduceLT, Int.reduceNeg, reduceCtorEq], by simp only [go_sem, ↓reduceIte, Nat.reduceEqDiff, Nat.reduceLeDiff, Nat.reduceAdd, Nat.reduceMul, Nat.reduceSub, Nat.reduceBEq, Nat.reduceGT, Nat.reduceLT, Int.reduceLE, Int.reduceLT, Int.reduceNeg, reduceCtorEq], by simp only [go_sem, ↓reduceIte, Nat.reduceEqDiff, Nat.reduceLeDiff, Nat.reduceAdd, Nat.reduceMul, Nat.reduceSub, Nat.reduceBEq, Nat.reduceGT, Nat.reduceLT, Int.reduceLE, Int.reduceLT, Int.reduceNeg, reduceCtorEq], by simp only [go_sem, ↓reduceIte, Nat.reduceEqDiff, Nat.reduceLeDiff, Nat.reduceAdd, Nat.reduceMul, Nat.reduceSub, Nat.reduceBEq, Nat.reduceGT, Nat.reduceLT, Int.reduceLE, Int.reduceLT, Int.reduceNeg, reduceCtorEq, ptrOf], by simp only [go_sem, ↓reduceIte, Nat.reduceEqDiff, Nat.reduceLeDiff, Nat.reduceAdd, Nat.reduceMul, Nat.reduceSub, Nat.reduceBEq, Nat.reduceGT, Nat.reduceLT, Int.reduceLE, Int.reduceLT, Int.reduceNeg, reduceCtorEq] <;> rfl, by omega, hf1, ⟨bp2, bp4⟩, hwr, hFw, cx1⟩
  clear hf1 bp1 bp2 bp3 bp4 hwr hFw cx1 hsz
  rintro ρ H2 ⟨i, F2, e0, e1, e2, e3, e9, e11, hi, hfs, hin, hwr, hFw, cx⟩
  have hsz := cx.size
  have nF0 : ¬ F2 0 := cx.not h0lt h.f0
  have ht2 : CrcTab H2 := cx.crc h.crc h.f0 (fun e => e)
  have hv2 := hv.keep cx (fun _ e => e.elim) (Nat.le_refl _)
  have hu2 := hu.keep cx (fun _ e => e.elim) (Nat.le_refl _)
  have rl := rowI_len (hd := hd) (l := l.take i) h1 fun x hx => h2 x (List.mem_of_mem_take hx)
  have til : (l.take i).length = i := by simp; omega
  rw [til] at rl
  have hri : (rowB (rowI hd (l.take i))).length ≤ 42476 := by omega
  have hop : (stI s n f hd (l.take i)).ops = s.ops + (2 + i) := by unfold stI; simp only [til]
  simp only [ptrOf] at e0 e9
  have z1 : 0 ≤ (wrI n hd (l.take i)).size ∧ (wrI n hd (l.take i)).size < 4611686018427387904 := by unfold wrI; simp only; omega
  by_cases hlt : i < l.length
  · obtain ⟨g, o, rfl, u1, g1, hu1⟩ := hv2.at hlt
    have c0 : (0 : Int) ≤ i := by omega
    have c1 : (i : Int) < l.length := by omega
    have w1 : IntKind.i64.wrap ((i : Int) + 1) = ((i + 1 : Nat) : Int) := by rw [w64_id (by omega) (by omega)]; omega
    have hp := h2 _ (mem_getD hlt [])
    have hbp := hbl _ (mem_getD hlt [])
    obtain ⟨pw, pin⟩ := putW_peace hin hf (p := l.getD i []) hp hbp (by omega)
    have z2 : 0 ≤ (wrI n hd (l.take i)).data ∧ (wrI n hd (l.take i)).data < 4611686018427387904 := by unfold wrI; simp only; omega
    simp only [go_sem, ↓reduceIte, Nat.reduceEqDiff, Nat.reduceLeDiff, Nat.reduceAdd, Nat.reduceMul, Nat.reduceSub, Nat.reduceBEq, Nat.reduceGT, Nat.reduceLT, Int.reduceLE, Int.reduceLT, Int.reduceNeg, reduceCtorEq, c12_L0, e0, e1, e2, e3, e9, e11, c0, c1, Int.toNat_natCast, g1]
    refine FunI.by (F25 hfs hin.pc.ok (by omega) hwr hFw nF0 ht2 hu1.1 hbp (by omega) (hu1.2.imp id fun q g hg => ⟨(q g hg).1, by have := (q g hg).2; omega⟩) z1 z2) ?_
    rintro _ H3 ⟨rfl, F3, hf3, hw3, cx3⟩
    rw [pw] at hf3 hw3 ⊢
    rw [← take_getD hlt] at hf3 hw3 pin
    simp only [go_sem, ↓reduceIte, Nat.reduceEqDiff, Nat.reduceLeDiff, Nat.reduceAdd, Nat.reduceMul, Nat.reduceSub, Nat.reduceBEq, Nat.reduceGT, Nat.reduceLT, Int.reduceLE, Int.reduceLT, Int.reduceNeg, reduceCtorEq, e0, e1, e2, e3, e9, e11]
    refine FunI.by (F19 _ _) ?_
    rintro _ _ ⟨rfl, rfl⟩
    have hwlt := (Array.getElem?_eq_some_iff.1 hwr).1
    have cx' : ChX (fun _ => False) F F3 H H3 := by
      have := (cx.mono (Y := (· = w)) fun _ e => e.elim).trans cx3
      exact ⟨this.size, this.old, fun g hg hn _ => this.get g hg hn (by omega)⟩
    simp only [go_sem, ↓reduceIte, Nat.reduceEqDiff, Nat.reduceLeDiff, Nat.reduceAdd, Nat.reduceMul, Nat.reduceSub, Nat.reduceBEq, Nat.reduceGT, Nat.reduceLT, Int.reduceLE, Int.reduceLT, Int.reduceNeg, reduceCtorEq, e0, e1, e2, e3, e9, e11, w1]
    refine ⟨Hold.mk ⟨i + 1, F3, by simp only [go_sem, ↓reduceIte, Nat.reduceEqDiff, Nat.reduceLeDiff, Nat.reduceAdd, Nat.reduceMul, Nat.reduceSub, Nat.reduceBEq, Nat.reduceGT, Nat.reduceLT, Int.reduceLE, Int.reduceLT, Int.reduceNeg, reduceCtorEq, e0, ptrOf], by simp only [go_sem, ↓reduceIte, Nat.reduceEqDiff, Nat.reduceLeDiff, Nat.reduceAdd, Nat.reduceMul, Nat.reduceSub, Nat.reduceBEq, Nat.reduceGT, Nat.reduceLT, Int.reduceLE, Int.reduceLT, Int.reduceNeg, reduceCtorEq, e1], by simp only [go_sem, ↓reduceIte, Nat.reduceEqDiff, Nat.reduceLeDiff, Nat.reduceAdd, Nat.reduceMul, Nat.reduceSub, Nat.reduceBEq, Nat.reduceGT, Nat.reduceLT, Int.reduceLE, Int.reduceLT, Int.reduceNeg, reduceCtorEq, e2], by simp only [go_sem, ↓reduceIte, Nat.reduceEqDiff, Nat.reduceLeDiff, Nat.reduceAdd, Nat.reduceMul, Nat.reduceSub, Nat.reduceBEq, Nat.reduceGT, Nat.reduceLT, Int.reduceLE, Int.reduceLT, Int.reduceNeg, reduceCtorEq, e3], by simp only [go_sem, ↓reduceIte, Nat.reduceEqDiff, Nat.reduceLeDiff, Nat.reduceAdd, Nat.reduceMul, Nat.reduceSub, Nat.reduceBEq, Nat.reduceGT, Nat.reduceLT, Int.reduceLE, Int.reduceLT, Int.reduceNeg, reduceCtorEq, e9, ptrOf], by simp only [go_sem, ↓reduceIte, Nat.reduceEqDiff, Nat.reduceLeDiff, Nat.reduceAdd, Nat.reduceMul, Nat.reduceSub, Nat.reduceBEq, Nat.reduceGT, Nat.reduceLT, Int.reduceLE, Int.reduceLT, Int.reduceNeg, reduceCtorEq], by omega, hf3, pin, hw3, cx3.not hwlt hFw, cx'⟩, by omega⟩
  · have c1 : ¬ (i : Int) < l.length := by omega
    have ei : i = l.length := by omega
    subst ei
    rw [List.take_length] at hfs hin hwr hop hri z1
    have z2 : 0 ≤ (wrI n hd l).data ∧ (wrI n hd l).data < 4294967296 := by unfold wrI; simp only; omega
    obtain ⟨en1, en2, en3⟩ := endW_peace hin hf true (by omega)
    simp only [go_sem, ↓reduceIte, Nat.reduceEqDiff, Nat.reduceLeDiff, Nat.reduceAdd, Nat.reduceMul, Nat.reduceSub, Nat.reduceBEq, Nat.reduceGT, Nat.reduceLT, Int.reduceLE, Int.reduceLT, Int.reduceNeg, reduceCtorEq, c12_L0, e0, e1, e2, e3, e9, e11, c1]
    refine FunI.by (F26 (sy := true) hfs hin.pc.ok (by omega) hwr hFw nF0 ht2 z1 z2) ?_
    rintro _ H3 ⟨rfl, F3, hf3, hw3, cx3⟩
    rw [en1] at hf3 hw3 ⊢
    simp only at hf3 hw3
    have cx' : ChX (fun _ => False) F F3 H H3 := by
      have := (cx.mono (Y := (· = w)) fun _ e => e.elim).trans cx3
      exact ⟨this.size, this.old, fun g hg hn _ => this.get g hg hn (by omega)⟩
    have hsize := size_calm en2 en3
    have edat : (doneS s n f hd l true).dat f = rowB (fileR hd l) := setF_same _ _ _
    rw [edat] at hsize
    obtain ⟨mb, lb, hb', pv, dv, hP⟩ := hf3
    have hf3 : FsH H3 F3 b (doneS s n f hd l true) := ⟨mb, lb, hb', pv, dv, hP⟩
    obtain ⟨X, hX⟩ : ∃ X, X = wI (crcW 0#32 (hd ++ l.flatten)) := ⟨_, rfl⟩
    rw [← hX]
    simp only [go_sem, ↓reduceIte, Nat.reduceEqDiff, Nat.reduceLeDiff, Nat.reduceAdd, Nat.reduceMul, Nat.reduceSub, Nat.reduceBEq, Nat.reduceGT, Nat.reduceLT, Int.reduceLE, Int.reduceLT, Int.reduceNeg, reduceCtorEq, e0, e1, e2, e3]
    refine FunI.by (F16 hP en2.ok.nowH n) ?_
    rintro _ H4 ⟨rfl, x4⟩
    rw [hsize]
    simp only [go_sem, ↓reduceIte, Nat.reduceEqDiff, Nat.reduceLeDiff, Nat.reduceAdd, Nat.reduceMul, Nat.reduceSub, Nat.reduceBEq, Nat.reduceGT, Nat.reduceLT, Int.reduceLE, Int.reduceLT, Int.reduceNeg, reduceCtorEq, e0, e1, e2, e3]
    refine FunI.by (F19 _ _) ?_
    rintro _ _ ⟨rfl, rfl⟩
    simp only [go_sem, ↓reduceIte, Nat.reduceEqDiff, Nat.reduceLeDiff, Nat.reduceAdd, Nat.reduceMul, Nat.reduceSub, Nat.reduceBEq, Nat.reduceGT, Nat.reduceLT, Int.reduceLE, Int.reduceLT, Int.reduceNeg, reduceCtorEq, e0, e1, e2, e3]
    refine FunI.by (F19 _ _) ?_
    rintro _ _ ⟨rfl, rfl⟩
    have cx4 : ChX (fun _ => False) F F3 H H4 := cx'.trans x4.chx
    have hv4 := hv.keep cx4 (fun _ e => e.elim) (Nat.le_refl _)
    have hu4 := hu.keep cx4 (fun _ e => e.elim) (Nat.le_refl _)
    simp only [go_sem, ↓reduceIte, Nat.reduceEqDiff, Nat.reduceLeDiff, Nat.reduceAdd, Nat.reduceMul, Nat.reduceSub, Nat.reduceBEq, Nat.reduceGT, Nat.reduceLT, Int.reduceLE, Int.reduceLT, Int.reduceNeg, reduceCtorEq, e0, e1, e2, e3]
    refine FunI.by (F27 hu4.1 hv4.lists hb hbl h1 h2 h3) ?_
    rintro _ H5 ⟨rfl, x5⟩
    rw [← hX]
    simp only [go_sem, ↓reduceIte, Nat.reduceEqDiff, Nat.reduceLeDiff, Nat.reduceAdd, Nat.reduceMul, Nat.reduceSub, Nat.reduceBEq, Nat.reduceGT, Nat.reduceLT, Int.reduceLE, Int.reduceLT, Int.reduceNeg, reduceCtorEq, e0, e1, e2, e3]
    exact ⟨f, F3, hf, ⟨(hf3.ext x4).ext x5, en2, cx4.not h0lt h.f0, (cx4.crc h.crc h.f0 (fun e => e)).ext x5⟩, en3, cx4.trans x5.chx⟩
end Go.Proofs.YtgpoldjpmcoppaaDoor
