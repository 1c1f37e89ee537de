/- Files written; operations. -/
import Derived.Test.YtgigigchjnnonaaGreatDoorVFsC
set_option linter.unusedSimpArgs false
set_option linter.unusedVariables false
set_option maxRecDepth 20000
namespace Go.V
open Go
/-- What one operation asks of the numbers. -/
structure Num (s : St) : Prop where
  fuse : 0 ≤ s.fuse ∧ s.fuse < 9223372036854775808
  ops : 0 ≤ s.ops ∧ s.ops < 1099511627776
  pl : (s.pend.length : Int) ≤ s.ops
theorem Ok.num {s : St} (ok : Ok s) (h : s.ops < 1099511627776) : Num s := ⟨ok.fuse, ⟨by have := ok.plen; omega, h⟩, ok.plen⟩
theorem count_same (s : St) : (countS s).1.room = s.room ∧ (countS s).1.now = s.now ∧ (countS s).1.last = s.last ∧ (countS s).1.pend = s.pend ∧ (countS s).1.held = s.held ∧ (countS s).1.dat = s.dat ∧ (countS s).1.syn = s.syn ∧ (countS s).1.ops = s.ops + 1 := by
  unfold countS
  split
  · split <;> exact ⟨rfl, rfl, rfl, rfl, rfl, rfl, rfl, rfl⟩
  · exact ⟨rfl, rfl, rfl, rfl, rfl, rfl, rfl, rfl⟩
end Go.V
namespace Go.Proofs.YtgigigchjnnonaaGreatDoor
open Go Go.V
section
variable {H H' H2 : Heap} {F F' : Nat → Prop} {b mb lb hb : Nat} {pv pv' : Value} {dv : Nat → Value} {s : St}
/-- A file has been turned: its block, and its bytes' own. -/
theorem FsP.setFile (h : FsP H F b mb lb hb pv dv s) {x : Nat} (hx : x ∈ s.held) {v' : Value} {d' : List Int} {sy' : Nat} (hs : H.size ≤ H'.size) (hk : ∀ g, g < H.size → g ≠ x → some g ≠ blk (dv x) → H'[g]? = H[g]?)
    (hc : H'[x]? = some (.cells #[v', .int .i64 sy'] 117)) (o : V.Own H' 0 5 1 v' (d'.map (.int .u8))) (ha : blk v' = blk (dv x) ∨ ∃ k, blk v' = some k ∧ H.size ≤ k) :
    ∃ F', FsP H' F' b mb lb hb pv (setF dv x v') { s with dat := setF s.dat x d', syn := setF s.syn x sy' } ∧ Ch F F' H H' := by
  obtain ⟨vs, p1, p2⟩ := h.hp
  have hfx := h.hf x hx
  have ne8 : ∀ (g : Nat) (c : Array Value) (t : TypeId), H[g]? = some (Obj.cells c t) → t ≠ 5 → some g ≠ blk (dv x) := by
    intro g c t hc ht hbe
    obtain ⟨_, _, cg, hcg⟩ := hfx.2.2.1.blk hbe.symm
    exact tag_ne hc hcg ht rfl
  have kc : ∀ (g : Nat) (c : Array Value) (t : TypeId), H[g]? = some (Obj.cells c t) → t ≠ 5 → t ≠ 117 → H'[g]? = H[g]? := fun g c t hc ht ht2 =>
    hk g (Array.getElem?_eq_some_iff.1 hc).1 (tag_ne hc hfx.2.1 ht2) (ne8 g c t hc ht)
  have km : ∀ (g : Nat), (∃ es c, H[g]? = some (Obj.map es c)) → H'[g]? = H[g]? := fun g hm => by
    obtain ⟨es, c, hm⟩ := hm
    exact hk g (Array.getElem?_eq_some_iff.1 hm).1 (map_ne hfx.2.1 hm).symm fun hbe => Own.ne_map hfx.2.2.1 hbe.symm ⟨es, c, hm⟩ rfl
  have nb : ∀ g ∈ s.held, g ≠ x → blk (dv g) = none ∨ blk (dv g) ≠ blk v' := fun g hg hne => by
    rcases ha with ha | ⟨k, hk1, hk2⟩
    · rw [ha]; exact h.dis g hg x hx hne
    · cases hbg : blk (dv g) with
      | none => exact .inl rfl
      | some q =>
        right
        rw [hk1]
        intro e
        have := ((h.hf g hg).2.2.1.blk hbg).2.1
        simp only [Option.some.injEq] at e
        omega
  have hp' : ∃ vs, V.Own H' 0 165 1 pv vs ∧ All2 (PendH H' (fun g => F g ∨ blk v' = some g)) vs s.pend := by
    refine ⟨vs, p1.keep fun g hg => ?_, p2.mono fun v p hv => hv.keep (fun _ h => .inl h) fun g c t hg hc ht => ?_⟩
    · obtain ⟨_, _, c, hc⟩ := p1.blk hg
      exact kc g _ _ hc (by decide : 165 ≠ 5) (by decide : 165 ≠ 117)
    · rcases ht with rfl | rfl
      · exact kc g _ _ hc (by decide : 115 ≠ 5) (by decide : 115 ≠ 117)
      · exact kc g _ _ hc (by decide : 9 ≠ 5) (by decide : 9 ≠ 117)
  have hf'' : ∀ f ∈ s.held, FileH H' (fun g => F g ∨ blk v' = some g) f (setF dv x v' f) (setF s.dat x d' f) (setF s.syn x sy' f) := by
    intro f hf
    unfold setF
    by_cases hfx2 : f = x
    · subst hfx2
      simp only [if_true]
      exact ⟨.inl hfx.1, hc, o, fun g hg => .inr hg⟩
    · simp only [if_neg hfx2]
      have hf' := h.hf f hf
      refine hf'.keep (fun _ h => .inl h) (hk f (Array.getElem?_eq_some_iff.1 hf'.2.1).1 hfx2 (ne8 f _ _ hf'.2.1 (by decide : 117 ≠ 5))) fun g hg => ?_
      obtain ⟨_, hlt, c, hcc⟩ := hf'.2.2.1.blk hg
      refine hk g hlt (tag_ne hcc hfx.2.1 (by decide : 5 ≠ 117)) fun e => ?_
      rcases h.dis f hf x hx hfx2 with hd | hd
      · rw [hd] at hg; cases hg
      · exact hd (hg.trans e)
  have hdis : ∀ f ∈ s.held, ∀ g ∈ s.held, f ≠ g → blk (setF dv x v' f) = none ∨ blk (setF dv x v' f) ≠ blk (setF dv x v' g) := by
    intro f hf g hg hne
    unfold setF
    by_cases hfx2 : f = x
    · subst hfx2
      have hgf : ¬ g = f := fun e => hne e.symm
      rw [if_pos rfl, if_neg hgf]
      rcases nb g hg hgf with hn | hn
      · cases hbv : blk v' with
        | none => exact .inl rfl
        | some q => right; rw [hn]; simp
      · exact .inr (Ne.symm hn)
    · rw [if_neg hfx2]
      by_cases hgx : g = x
      · rw [if_pos hgx]; exact nb f hf hfx2
      · rw [if_neg hgx]; exact h.dis f hf g hg hne
  refine ⟨fun g => F g ∨ blk v' = some g, ⟨by rw [kc _ _ _ h.hM (by decide : 89 ≠ 5) (by decide : 89 ≠ 117)]; exact h.hM, h.hN.keep (km _ h.hN.map), h.hL.keep (km _ h.hL.map), h.hH.keep (km _ h.hH.map), hp', hf'', hdis, h.ne, .inl h.fb, .inl h.fm, .inl h.fl, .inl h.fh, fun g hg => .inl (h.fp g hg), fun g hg => ?_⟩, hs, fun g hg => ?_, fun g hg hnf => hk g hg (fun e => hnf (e ▸ hfx.1)) fun e => hnf (hfx.2.2.2 g e.symm)⟩
  · rcases hg with hg | hg
    · exact Nat.lt_of_lt_of_le (h.lt g hg) hs
    · exact (o.blk hg).2.1
  · rcases hg with hg | hg
    · exact .inl hg
    · rcases ha with ha | ⟨k, hk1, hk2⟩
      · exact .inl (hfx.2.2.2 g (ha ▸ hg))
      · rw [hk1] at hg; cases hg; exact .inr hk2
theorem setF_self {α : Type} (f : Nat → α) (x : Nat) : setF f x (f x) = f := by
  funext y; unfold setF; split
  · rename_i h; rw [h]
  · rfl
set_option maxHeartbeats 800000 in
theorem F68 (h : FsP H F b mb lb hb pv dv s) (ok : Ok s) (hn : s.ops < 1099511627776) (n : Nm) :
    Fun Tryz.prog 68 #[ptrOf b, .string n] H (fun r H' => r = .int .i64 (removeS s n).2 ∧ ∃ F', FsH H' F' b (removeS s n).1 ∧ Ch F F' H H') := by
  refine fun_of mixed (args := [_, _]) Tryz.func68 Tryz.ntmps68 b68 r68 rfl ?_
  simp only [go_sem, ↓reduceIte, Nat.reduceEqDiff, Nat.reduceLeDiff, Nat.reduceAdd, Nat.reduceMul, Nat.reduceSub, Nat.reduceBEq, Nat.reduceGT, Nat.reduceLT, Int.reduceLE, Int.reduceLT, Int.reduceNeg, reduceCtorEq]
  refine FunI.by (F178 h n) ?_
  rintro _ H1 ⟨rfl, x1⟩
  have h1 := h.ext x1
  rcases find_cases s n with ⟨e, hf, he⟩ | ⟨x, hf, hx, _⟩
  · have e2 : removeS s n = (s, e) := by unfold removeS; rw [hf]
    rw [e2, hf]
    simp only [go_sem, ↓reduceIte, Nat.reduceEqDiff, Nat.reduceLeDiff, Nat.reduceAdd, Nat.reduceMul, Nat.reduceSub, Nat.reduceBEq, Nat.reduceGT, Nat.reduceLT, Int.reduceLE, Int.reduceLT, Int.reduceNeg, reduceCtorEq, he]
    exact ⟨F, ⟨_, _, _, _, _, h1⟩, x1.ch⟩
  · have e2 : removeS s n = pendS s x emptyNm := by unfold removeS; rw [hf]
    have N := ok.num hn
    rw [e2, hf]
    simp only [go_sem, ↓reduceIte, Nat.reduceEqDiff, Nat.reduceLeDiff, Nat.reduceAdd, Nat.reduceMul, Nat.reduceSub, Nat.reduceBEq, Nat.reduceGT, Nat.reduceLT, Int.reduceLE, Int.reduceLT, Int.reduceNeg, reduceCtorEq]
    refine FunI.by (F188 h1 (ok.nowH _ _ hx) emptyNm ok.nowH N.fuse ⟨N.ops.1, by have := N.ops; omega⟩ (by have := N.pl; have := N.ops; omega)) ?_
    rintro _ H2 ⟨rfl, F', pv', h2, ch⟩
    simp only [go_sem, ↓reduceIte, Nat.reduceEqDiff, Nat.reduceLeDiff, Nat.reduceAdd, Nat.reduceMul, Nat.reduceSub, Nat.reduceBEq, Nat.reduceGT, Nat.reduceLT, Int.reduceLE, Int.reduceLT, Int.reduceNeg, reduceCtorEq]
    exact ⟨F', ⟨_, _, _, _, _, h2⟩, x1.ch.trans ch⟩
set_option maxHeartbeats 800000 in
theorem F95 (h : FsP H F b mb lb hb pv dv s) (ok : Ok s) (hn : s.ops < 1099511627776) (n m : Nm) :
    Fun Tryz.prog 95 #[ptrOf b, .string n, .string m] H (fun r H' => r = .int .i64 (renameS s n m).2 ∧ ∃ F', FsH H' F' b (renameS s n m).1 ∧ Ch F F' H H') := by
  refine fun_of mixed (args := [_, _, _]) Tryz.func95 Tryz.ntmps95 b95 r95 rfl ?_
  simp only [go_sem, ↓reduceIte, Nat.reduceEqDiff, Nat.reduceLeDiff, Nat.reduceAdd, Nat.reduceMul, Nat.reduceSub, Nat.reduceBEq, Nat.reduceGT, Nat.reduceLT, Int.reduceLE, Int.reduceLT, Int.reduceNeg, reduceCtorEq, ptrOf]
  have x0 : Ext H (H.push (.cells #[.string n, .string m] 9)) := Ext.push _
  have hs : Strs (H.push (.cells #[.string n, .string m] 9)) (.slice (some ⟨H.size, 0, none⟩) 2 2) [n, m] := Sl.new (n := 2) (sz := 1) (c := #[.string n, .string m]) rfl
  have h1 := h.ext x0
  obtain ⟨q0, q1, q2, q3, q4, q5, q6, q7⟩ := h1.get
  generalize H.push (.cells #[.string n, .string m] 9) = H1 at *
  refine FunI.by (F206 (b := b) q5 hs (by simp)) ?_
  rintro _ _ ⟨rfl, rfl⟩
  rw [← begin_eq]
  by_cases c0 : beginS s [n, m] = 0
  · obtain ⟨l, c, m1, m2⟩ := h1.hN
    simp only [go_sem, ↓reduceIte, Nat.reduceEqDiff, Nat.reduceLeDiff, Nat.reduceAdd, Nat.reduceMul, Nat.reduceSub, Nat.reduceBEq, Nat.reduceGT, Nat.reduceLT, Int.reduceLE, Int.reduceLT, Int.reduceNeg, reduceCtorEq, c0, q1]
    refine RunI.by (lookup_run (keyed_str (und_str ty9)) (und_map ty85) (zero_ty ty115) m1 n trivial fun _ _ => trivial) ?_
    rintro _ _ ⟨rfl, rfl⟩
    rw [m2]
    cases hx : s.now n with
    | none =>
      have e : renameS s n m = (s, 82) := by unfold renameS; rw [if_neg (by simp [c0])]; simp only [hx]
      rw [e]
      simp only [go_sem, ↓reduceIte, Nat.reduceEqDiff, Nat.reduceLeDiff, Nat.reduceAdd, Nat.reduceMul, Nat.reduceSub, Nat.reduceBEq, Nat.reduceGT, Nat.reduceLT, Int.reduceLE, Int.reduceLT, Int.reduceNeg, reduceCtorEq, Option.getD_none]
      exact ⟨F, ⟨_, _, _, _, _, h1⟩, x0.ch⟩
    | some x =>
      have e : renameS s n m = pendS s x m := by unfold renameS; rw [if_neg (by simp [c0])]; simp only [hx]
      have N := ok.num hn
      rw [e]
      simp only [go_sem, ↓reduceIte, Nat.reduceEqDiff, Nat.reduceLeDiff, Nat.reduceAdd, Nat.reduceMul, Nat.reduceSub, Nat.reduceBEq, Nat.reduceGT, Nat.reduceLT, Int.reduceLE, Int.reduceLT, Int.reduceNeg, reduceCtorEq, Option.getD_some, ptrOf]
      refine FunI.by (F188 h1 (ok.nowH _ _ hx) m ok.nowH N.fuse ⟨N.ops.1, by have := N.ops; omega⟩ (by have := N.pl; have := N.ops; omega)) ?_
      rintro _ H2 ⟨rfl, F', pv', h2, ch⟩
      simp only [go_sem, ↓reduceIte, Nat.reduceEqDiff, Nat.reduceLeDiff, Nat.reduceAdd, Nat.reduceMul, Nat.reduceSub, Nat.reduceBEq, Nat.reduceGT, Nat.reduceLT, Int.reduceLE, Int.reduceLT, Int.reduceNeg, reduceCtorEq]
      exact ⟨F', ⟨_, _, _, _, _, h2⟩, x0.ch.trans ch⟩
  · have e : renameS s n m = (s, beginS s [n, m]) := by unfold renameS; rw [if_pos c0]
    rw [e]
    simp only [go_sem, ↓reduceIte, Nat.reduceEqDiff, Nat.reduceLeDiff, Nat.reduceAdd, Nat.reduceMul, Nat.reduceSub, Nat.reduceBEq, Nat.reduceGT, Nat.reduceLT, Int.reduceLE, Int.reduceLT, Int.reduceNeg, reduceCtorEq, c0]
    exact ⟨F, ⟨_, _, _, _, _, h1⟩, x0.ch⟩
set_option maxHeartbeats 800000 in
theorem F205 (h : FsP H F b mb lb hb pv dv s) (ok : Ok s) (hn : s.ops < 1099511627776) (n : Nm) :
    Fun Tryz.prog 205 #[ptrOf b, .string n] H (fun r H' => r = .int .i64 (syncS s n).2 ∧ ∃ F', FsH H' F' b (syncS s n).1 ∧ Ch F F' H H') := by
  refine fun_of mixed (args := [_, _]) Tryz.func205 Tryz.ntmps205 b205 r205 rfl ?_
  simp only [go_sem, ↓reduceIte, Nat.reduceEqDiff, Nat.reduceLeDiff, Nat.reduceAdd, Nat.reduceMul, Nat.reduceSub, Nat.reduceBEq, Nat.reduceGT, Nat.reduceLT, Int.reduceLE, Int.reduceLT, Int.reduceNeg, reduceCtorEq]
  refine FunI.by (F178 h n) ?_
  rintro _ H1 ⟨rfl, x1⟩
  have h1 := h.ext x1
  rcases find_cases s n with ⟨e, hf, he⟩ | ⟨x, hf, hx, _⟩
  · have e2 : syncS s n = (s, e) := by unfold syncS; rw [hf]
    rw [e2, hf]
    simp only [go_sem, ↓reduceIte, Nat.reduceEqDiff, Nat.reduceLeDiff, Nat.reduceAdd, Nat.reduceMul, Nat.reduceSub, Nat.reduceBEq, Nat.reduceGT, Nat.reduceLT, Int.reduceLE, Int.reduceLT, Int.reduceNeg, reduceCtorEq, he]
    exact ⟨F, ⟨_, _, _, _, _, h1⟩, x1.ch⟩
  have N := ok.num hn
  rw [hf]
  simp only [go_sem, ↓reduceIte, Nat.reduceEqDiff, Nat.reduceLeDiff, Nat.reduceAdd, Nat.reduceMul, Nat.reduceSub, Nat.reduceBEq, Nat.reduceGT, Nat.reduceLT, Int.reduceLE, Int.reduceLT, Int.reduceNeg, reduceCtorEq]
  refine FunI.by (F179 h1 N.fuse ⟨N.ops.1, by have := N.ops; omega⟩) ?_
  rintro _ H2 ⟨rfl, h2, ch2⟩
  obtain ⟨_, _, _, _, eh, ed, es, _⟩ := count_same s
  by_cases c0 : (countS s).2 = 0
  · have e2 : syncS s n = ({ (countS s).1 with dat := s.dat, syn := setF s.syn x (s.dat x).length }, 0) := by
      unfold syncS; rw [hf]
      refine (if_pos c0).trans ?_
      simp only [ed]
    have hxh : x ∈ (countS s).1.held := by rw [eh]; exact ok.nowH _ _ hx
    have hfx := h2.hf x hxh
    obtain ⟨d0, d1, ⟨a, cap, hd⟩, _⟩ := hfx.at
    have hcn : hcan H2 x 1 1 := hcan_of hfx.2.1 (by simp)
    obtain ⟨F', h3, ch3⟩ := h2.setFile (H' := hput H2 x 1 [.int .i64 ((countS s).1.dat x).length]) hxh (v' := dv x) (d' := (countS s).1.dat x) (sy' := ((countS s).1.dat x).length) (by rw [hput_size]; exact Nat.le_refl _) (fun g _ hne _ => hput_other _ _ _ _ hne)
      (by rw [hput_same hfx.2.1]; rfl) (hfx.2.2.1.keep fun g hg => hput_other _ _ _ _ (by obtain ⟨_, _, c, hc⟩ := hfx.2.2.1.blk hg; exact tag_ne hc hfx.2.1 (by decide : 5 ≠ 117))) (.inl rfl)
    rw [setF_self, setF_self, es, ed] at h3
    rw [e2]
    rw [hd] at d0
    rw [ed] at d0
    simp only [ed] at h3 ch3
    simp only [go_sem, ↓reduceIte, Nat.reduceEqDiff, Nat.reduceLeDiff, Nat.reduceAdd, Nat.reduceMul, Nat.reduceSub, Nat.reduceBEq, Nat.reduceGT, Nat.reduceLT, Int.reduceLE, Int.reduceLT, Int.reduceNeg, reduceCtorEq, c0, ptrOf, d0, hcn]
    exact ⟨rfl, F', ⟨_, _, _, _, _, h3⟩, (x1.ch.trans ch2).trans ch3⟩
  · have e2 : syncS s n = countS s := by unfold syncS; rw [hf]; exact if_neg c0
    rw [e2]
    simp only [go_sem, ↓reduceIte, Nat.reduceEqDiff, Nat.reduceLeDiff, Nat.reduceAdd, Nat.reduceMul, Nat.reduceSub, Nat.reduceBEq, Nat.reduceGT, Nat.reduceLT, Int.reduceLE, Int.reduceLT, Int.reduceNeg, reduceCtorEq, c0]
    exact ⟨F, ⟨_, _, _, _, _, h2⟩, x1.ch.trans ch2⟩
set_option maxHeartbeats 1600000 in
theorem F63 (h : FsP H F b mb lb hb pv dv s) (ok : Ok s) (hn : s.ops < 1099511627776) (n : Nm) {v : Value} {xs : List Int} (hv : Ints H 5 .u8 v xs) (hxl : xs.length < 4611686018427387904) :
    Fun Tryz.prog 63 #[ptrOf b, .string n, v] H (fun r H' => r = .int .i64 (appendS s n xs).2 ∧ ∃ F', FsH H' F' b (appendS s n xs).1 ∧ Ch F F' H H') := by
  obtain ⟨a, cap, rfl⟩ := hv.form
  refine fun_of mixed (args := [_, _, _]) Tryz.func63 Tryz.ntmps63 b63 r63 rfl ?_
  simp only [go_sem, ↓reduceIte, Nat.reduceEqDiff, Nat.reduceLeDiff, Nat.reduceAdd, Nat.reduceMul, Nat.reduceSub, Nat.reduceBEq, Nat.reduceGT, Nat.reduceLT, Int.reduceLE, Int.reduceLT, Int.reduceNeg, reduceCtorEq]
  refine FunI.by (F178 h n) ?_
  rintro _ H1 ⟨rfl, x1⟩
  have h1 := h.ext x1
  rcases find_cases s n with ⟨e, hf, he⟩ | ⟨x, hf, hx, _⟩
  · have e2 : appendS s n xs = (s, e) := by unfold appendS; rw [hf]
    rw [e2, hf]
    simp only [go_sem, ↓reduceIte, Nat.reduceEqDiff, Nat.reduceLeDiff, Nat.reduceAdd, Nat.reduceMul, Nat.reduceSub, Nat.reduceBEq, Nat.reduceGT, Nat.reduceLT, Int.reduceLE, Int.reduceLT, Int.reduceNeg, reduceCtorEq, he]
    exact ⟨F, ⟨_, _, _, _, _, h1⟩, x1.ch⟩
  have N := ok.num hn
  have hroom := ok.room
  have hsum := ok.sum
  have hnn := heldS_nonneg s
  obtain ⟨g0, g1, g2, g3, g4, g5, g6, g7⟩ := h1.get
  rw [hf]
  simp only [go_sem, ↓reduceIte, Nat.reduceEqDiff, Nat.reduceLeDiff, Nat.reduceAdd, Nat.reduceMul, Nat.reduceSub, Nat.reduceBEq, Nat.reduceGT, Nat.reduceLT, Int.reduceLE, Int.reduceLT, Int.reduceNeg, reduceCtorEq, ptrOf, g0]
  refine FunI.by (F79 h1 (by omega)) ?_
  rintro _ H2 ⟨rfl, x2⟩
  refine ⟨x2, ?_⟩
  have w1 : IntKind.i64.wrap (s.room - heldS s) = s.room - heldS s := w64_id (by omega) (by omega)
  have h2 := h1.ext x2
  by_cases c0 : s.room - heldS s < xs.length
  · have e2 : appendS s n xs = (s, 80) := by unfold appendS; rw [hf]; exact if_pos c0
    rw [e2]
    simp only [go_sem, ↓reduceIte, Nat.reduceEqDiff, Nat.reduceLeDiff, Nat.reduceAdd, Nat.reduceMul, Nat.reduceSub, Nat.reduceBEq, Nat.reduceGT, Nat.reduceLT, Int.reduceLE, Int.reduceLT, Int.reduceNeg, reduceCtorEq, w1, c0]
    exact ⟨F, ⟨_, _, _, _, _, h2⟩, x1.ch.trans x2.ch⟩
  have e2 : appendS s n xs = countS { s with dat := setF s.dat x (s.dat x ++ xs) } := by unfold appendS; rw [hf]; exact if_neg c0
  have hxh := ok.nowH _ _ hx
  have hfx := h2.hf x hxh
  obtain ⟨d0, d1, ⟨a', cap', hd⟩, _⟩ := hfx.at
  have hdl := dat_le ok hxh
  have hv2 : Ints H2 5 .u8 (.slice a xs.length cap) xs := (hv.ext x1).ext x2
  rw [e2]
  simp only [go_sem, ↓reduceIte, Nat.reduceEqDiff, Nat.reduceLeDiff, Nat.reduceAdd, Nat.reduceMul, Nat.reduceSub, Nat.reduceBEq, Nat.reduceGT, Nat.reduceLT, Int.reduceLE, Int.reduceLT, Int.reduceNeg, reduceCtorEq, w1, c0, ptrOf, d0]
  refine RunI.by (append_own ty53 ty5 rfl rfl rfl (by decide) hfx.2.2.1 hv2 (by intro u hu; obtain ⟨y, _, rfl⟩ := List.mem_map.1 hu; rfl) (n := (s.dat x).length + xs.length) (by simp) (by show ((s.dat x).length + xs.length) * 1 ≤ _; omega) (by omega) (Nat.zero_le _)) ?_
  rintro v' H3 ⟨o1, b1, a1, _⟩
  rw [← List.map_append] at o1
  have hc3 : H3[x]? = some (.cells #[dv x, .int .i64 (s.syn x)] 117) := by
    rw [b1.get x (Array.getElem?_eq_some_iff.1 hfx.2.1).1 fun e => by obtain ⟨_, _, c, hc⟩ := hfx.2.2.1.blk e.symm; exact tag_ne hfx.2.1 hc (by decide : 117 ≠ 5) rfl]
    exact hfx.2.1
  have hcn : hcan H3 x 0 1 := hcan_of hc3 (by simp)
  obtain ⟨F', h4, ch4⟩ := h2.setFile (H' := hput H3 x 0 [v']) hxh (v' := v') (d' := s.dat x ++ xs) (sy' := s.syn x) (by rw [hput_size]; exact b1.size) (fun g hg hne hne2 => by rw [hput_other _ _ _ _ hne]; exact b1.get g hg hne2)
    (by rw [hput_same hc3]; rfl) (o1.keep fun g hg => hput_other _ _ _ _ (by obtain ⟨_, _, c, hc⟩ := o1.blk hg; exact tag_ne hc hc3 (by decide : 5 ≠ 117))) (a1.imp_right fun e => ⟨_, e, Nat.le_refl _⟩)
  rw [setF_self] at h4
  obtain ⟨a2, l2, c2, rfl⟩ := Sl.form o1.sl
  simp only [go_sem, ↓reduceIte, Nat.reduceEqDiff, Nat.reduceLeDiff, Nat.reduceAdd, Nat.reduceMul, Nat.reduceSub, Nat.reduceBEq, Nat.reduceGT, Nat.reduceLT, Int.reduceLE, Int.reduceLT, Int.reduceNeg, reduceCtorEq, hcn]
  refine ⟨rfl, ?_⟩
  refine FunI.by (F179 h4 N.fuse ⟨N.ops.1, by have := N.ops; show s.ops < _; omega⟩) ?_
  rintro _ H5 ⟨rfl, h5, ch5⟩
  simp only [go_sem, ↓reduceIte, Nat.reduceEqDiff, Nat.reduceLeDiff, Nat.reduceAdd, Nat.reduceMul, Nat.reduceSub, Nat.reduceBEq, Nat.reduceGT, Nat.reduceLT, Int.reduceLE, Int.reduceLT, Int.reduceNeg, reduceCtorEq]
  exact ⟨F', ⟨_, _, _, _, _, h5⟩, ((x1.ch.trans x2.ch).trans ch4).trans ch5⟩
/-- One file more. -/
theorem FsP.addFile (h : FsP H F b mb lb hb pv dv s) (H2) (hs : H2.size = H.size + 1) (hk : ∀ g, g < H.size → g ≠ hb → H2[g]? = H[g]?) (hc : H2[H.size]? = some (.cells #[.slice none 0 0, .int .i64 0] 117)) (hh : HeldH H2 hb (s.held ++ [H.size])) :
    ∃ F', FsP H2 F' b mb lb hb pv (setF dv H.size (.slice none 0 0)) (addS s H.size) ∧ Ch F F' H H2 := by
  obtain ⟨vs, p1, p2⟩ := h.hp
  have mm := h.hH.map
  have kk : ∀ g, F g → g ≠ hb → H2[g]? = H[g]? := fun g hg hne => hk g (h.lt g hg) hne
  have kc : ∀ (g : Nat) (c : Array Value) (t : TypeId), F g → H[g]? = some (.cells c t) → H2[g]? = H[g]? := fun g c t hg hc => kk g hg (let ⟨_, _, hm⟩ := mm; map_ne hc hm)
  have hnx : ∀ f ∈ s.held, f ≠ H.size := fun f hf e => by have := h.lt f (h.hf f hf).1; omega
  have hmem : ∀ f, f ∈ s.held ++ [H.size] ↔ f ∈ s.held ∨ f = H.size := fun f => by simp
  refine ⟨fun g => F g ∨ g = H.size, ⟨by rw [kc b _ _ h.fb h.hM]; exact h.hM, h.hN.keep (kk _ h.fm h.ne.2.1), h.hL.keep (kk _ h.fl h.ne.2.2), hh, ⟨vs, p1.keep fun g hg => kk g (h.fp g hg) (Own.ne_map p1 hg mm), p2.mono fun v p hv => hv.keep (fun _ h => .inl h) fun g c t hg hc _ => kc g c t hg hc⟩,
    fun f hf => ?_, fun f hf g hg hne => ?_, h.ne, .inl h.fb, .inl h.fm, .inl h.fl, .inl h.fh, fun g hg => .inl (h.fp g hg), fun g hg => ?_⟩, ⟨by omega, fun g hg => ?_, fun g hg hne => hk g hg fun e => hne (e ▸ h.fh)⟩⟩
  · rcases (hmem f).1 hf with hf | rfl
    · have hf' := h.hf f hf
      have hne := hnx f hf
      simp only [addS, setF, if_neg hne]
      exact hf'.keep (fun _ h => .inl h) (kc f _ _ hf'.1 hf'.2.1) fun g hg => kk g (hf'.2.2.2 g hg) (Own.ne_map hf'.2.2.1 hg mm)
    · simp only [addS, setF, if_true]
      exact ⟨.inr rfl, hc, Own.nil, fun g hg => by simp [blk] at hg⟩
  · rcases (hmem f).1 hf with hf | rfl
    · rcases (hmem g).1 hg with hg | rfl
      · simp only [setF, if_neg (hnx f hf), if_neg (hnx g hg)]
        exact h.dis f hf g hg hne
      · simp only [setF, if_neg (hnx f hf), if_true]
        cases hb2 : blk (dv f) with
        | none => exact .inl rfl
        | some q => right; simp [blk]
    · left; simp [setF, blk]
  · rcases hg with hg | rfl
    · have := h.lt g hg; omega
    · omega
  · rcases hg with hg | rfl
    · exact .inl hg
    · exact .inr (Nat.le_refl _)
set_option maxHeartbeats 1600000 in
theorem F202 (h : FsP H F b mb lb hb pv dv s) (ok : Ok s) (hn : s.ops < 1099511627776) (n : Nm) :
    Fun Tryz.prog 202 #[ptrOf b, .string n] H (fun r H' => ∃ x, x ∉ s.held ∧ r = .int .i64 (createS s n x).2 ∧ ∃ F', FsH H' F' b (createS s n x).1 ∧ Ch F F' H H') := by
  refine fun_of mixed (args := [_, _]) Tryz.func202 Tryz.ntmps202 b202 r202 rfl ?_
  simp only [go_sem, ↓reduceIte, Nat.reduceEqDiff, Nat.reduceLeDiff, Nat.reduceAdd, Nat.reduceMul, Nat.reduceSub, Nat.reduceBEq, Nat.reduceGT, Nat.reduceLT, Int.reduceLE, Int.reduceLT, Int.reduceNeg, reduceCtorEq, ptrOf]
  have x0 : Ext H (H.push (.cells #[.string n] 9)) := Ext.push _
  have hs : Strs (H.push (.cells #[.string n] 9)) (.slice (some ⟨H.size, 0, none⟩) 1 1) [n] := Sl.new (n := 1) (sz := 1) (c := #[.string n]) rfl
  have h1 := h.ext x0
  obtain ⟨q0, q1, q2, q3, q4, q5, q6, q7⟩ := h1.get
  generalize H.push (.cells #[.string n] 9) = H1 at *
  have hx1 : H1.size ∉ s.held := fun hm => by have := h1.lt _ (h1.hf _ hm).1; omega
  refine FunI.by (F206 (b := b) q5 hs (by simp)) ?_
  rintro _ _ ⟨rfl, rfl⟩
  rw [← begin_eq]
  by_cases c0 : beginS s [n] = 0
  · obtain ⟨l, c, m1, m2⟩ := h1.hN
    simp only [go_sem, ↓reduceIte, Nat.reduceEqDiff, Nat.reduceLeDiff, Nat.reduceAdd, Nat.reduceMul, Nat.reduceSub, Nat.reduceBEq, Nat.reduceGT, Nat.reduceLT, Int.reduceLE, Int.reduceLT, Int.reduceNeg, reduceCtorEq, c0, q1]
    refine RunI.by (lookup_run (keyed_str (und_str ty9)) (und_map ty85) (zero_ty ty115) m1 n trivial fun _ _ => trivial) ?_
    rintro _ _ ⟨rfl, rfl⟩
    rw [m2]
    cases hx : s.now n with
    | some x =>
      have e : createS s n H1.size = (s, 83) := by unfold createS; rw [if_neg (by simp [c0]), if_pos (by simp [hx])]
      simp only [go_sem, ↓reduceIte, Nat.reduceEqDiff, Nat.reduceLeDiff, Nat.reduceAdd, Nat.reduceMul, Nat.reduceSub, Nat.reduceBEq, Nat.reduceGT, Nat.reduceLT, Int.reduceLE, Int.reduceLT, Int.reduceNeg, reduceCtorEq, Option.getD_some, ptrOf]
      refine ⟨H1.size, hx1, ?_⟩
      rw [e]
      exact ⟨rfl, F, ⟨_, _, _, _, _, h1⟩, x0.ch⟩
    | none =>
      have e : createS s n H1.size = pendS (addS s H1.size) H1.size n := by unfold createS; rw [if_neg (by simp [c0]), if_neg (by simp [hx])]
      have xp : Ext H1 (H1.push (.cells #[.slice none 0 0, .int .i64 0] 117)) := Ext.push _
      have h2 := h1.ext xp
      obtain ⟨_, _, _, _, r4, _, _, _⟩ := h2.get
      have hc2 : (H1.push (.cells #[.slice none 0 0, .int .i64 0] 117))[H1.size]? = some (.cells #[.slice none 0 0, .int .i64 0] 117) := push_new
      have sz2 : (H1.push (.cells #[.slice none 0 0, .int .i64 0] 117)).size = H1.size + 1 := by simp
      simp only [go_sem, ↓reduceIte, Nat.reduceEqDiff, Nat.reduceLeDiff, Nat.reduceAdd, Nat.reduceMul, Nat.reduceSub, Nat.reduceBEq, Nat.reduceGT, Nat.reduceLT, Int.reduceLE, Int.reduceLT, Int.reduceNeg, reduceCtorEq, Option.getD_none, r4]
      generalize H1.push (.cells #[.slice none 0 0, .int .i64 0] 117) = H2 at *
      obtain ⟨l3, c3, m3, hp3⟩ := h2.hH
      obtain ⟨j, hj1, hj2⟩ := info_ty ty117
      refine OpSI.skip (update_run (keyed_ptr (und_ptr ty115) hj1 (by rw [hj2]; decide)) (und_map ty86) m3 H1.size (.bool true) (stands_cells hc2) fun e he => h2.stands (hp3.mem_iff.1 (List.mem_map.2 ⟨e, he, rfl⟩))) ?_
      rintro H3 ⟨c4, m4, s4, k4⟩
      have hb1 := h1.hH.map
      have hbl : hb < H1.size := let ⟨_, _, hm⟩ := hb1; (Array.getElem?_eq_some_iff.1 hm).1
      obtain ⟨F', h3, ch3⟩ := h1.addFile H3 (by omega) (fun g hg hne => by rw [k4 g hne, xp.get g hg]) (by rw [k4 _ (by omega)]; exact hc2)
        ⟨_, _, m4, by rw [keys_set, if_neg (fun hm => hx1 (hp3.mem_iff.1 hm))]; exact hp3.append_right _⟩
      have N := ok.num hn
      simp only [go_sem, ↓reduceIte, Nat.reduceEqDiff, Nat.reduceLeDiff, Nat.reduceAdd, Nat.reduceMul, Nat.reduceSub, Nat.reduceBEq, Nat.reduceGT, Nat.reduceLT, Int.reduceLE, Int.reduceLT, Int.reduceNeg, reduceCtorEq]
      refine FunI.by (F188 (x := H1.size) h3 (by simp [addS]) n (fun m f hm => by simp only [addS, List.mem_append]; exact .inl (ok.nowH m f hm)) N.fuse ⟨N.ops.1, by have := N.ops; show s.ops < _; omega⟩ (by have := N.pl; have := N.ops; show s.pend.length ≤ _; omega)) ?_
      rintro _ H4 ⟨rfl, F4, pv4, h4, ch4⟩
      simp only [go_sem, ↓reduceIte, Nat.reduceEqDiff, Nat.reduceLeDiff, Nat.reduceAdd, Nat.reduceMul, Nat.reduceSub, Nat.reduceBEq, Nat.reduceGT, Nat.reduceLT, Int.reduceLE, Int.reduceLT, Int.reduceNeg, reduceCtorEq]
      refine ⟨H1.size, hx1, ?_⟩
      rw [e]
      exact ⟨rfl, F4, ⟨_, _, _, _, _, h4⟩, (x0.ch.trans ch3).trans ch4⟩
  · have e : createS s n H1.size = (s, beginS s [n]) := by unfold createS; rw [if_pos c0]
    simp only [go_sem, ↓reduceIte, Nat.reduceEqDiff, Nat.reduceLeDiff, Nat.reduceAdd, Nat.reduceMul, Nat.reduceSub, Nat.reduceBEq, Nat.reduceGT, Nat.reduceLT, Int.reduceLE, Int.reduceLT, Int.reduceNeg, reduceCtorEq, c0]
    refine ⟨H1.size, hx1, ?_⟩
    rw [e]
    exact ⟨rfl, F, ⟨_, _, _, _, _, h1⟩, x0.ch⟩
end
end Go.Proofs.YtgigigchjnnonaaGreatDoor
