/- Names told; a crash. -/
import Derived.Test.YtgigigchjnnonaaGreatDoorM2
import Derived.Test.YtgigigchjnnonaaGreatDoorVFsO
set_option linter.unusedSimpArgs false
set_option linter.unusedVariables false
set_option maxRecDepth 20000
namespace Go.V
open Go
theorem Sl.keepB {H H' : Heap} {e : TypeId} {sz : Nat} {v : Value} {vs : List Value} (h : Sl H e sz v vs) (hk : ∀ b, blk v = some b → b < H.size → H'[b]? = H[b]?) : Sl H' e sz v vs := by
  obtain ⟨a, len, cap, rfl, hc, hl, h | ⟨b, o, c, t, fr, rfl, hb, hg⟩⟩ := h
  · exact ⟨a, len, cap, rfl, hc, hl, .inl h⟩
  · exact ⟨_, len, cap, rfl, hc, hl, .inr ⟨b, o, c, t, fr, rfl, by rw [hk b rfl (Array.getElem?_eq_some_iff.1 hb).1]; exact hb, hg⟩⟩
theorem Sl.ch {F F' : Nat → Prop} {H H' : Heap} {e : TypeId} {sz : Nat} {v : Value} {vs : List Value} (h : Sl H e sz v vs) (hc : Ch F F' H H') (hf : ∀ b, blk v = some b → ¬ F b) : Sl H' e sz v vs :=
  h.keepB fun b hb hlt => hc.get b hlt (hf b hb)
theorem Own.cutL {H : Heap} {B : Nat} {e : TypeId} {a : Option Addr} {len cap n : Nat} {vs : List Value} (h : V.Own H B e 1 (.slice a len cap) vs) (hn : n ≤ len) : V.Own H B e 1 (.slice a n cap) (vs.take n) := by
  rcases h with ⟨h, rfl⟩ | ⟨g, len', cap', c, he, hB, hg, hlc, hcm, hcs, hl, ht⟩
  · cases h
    have : n = 0 := by omega
    subst this
    exact .inl ⟨rfl, rfl⟩
  · cases he
    refine .inr ⟨g, n, cap, c, rfl, hB, hg, by omega, hcm, hcs, ?_, ?_⟩
    · rw [List.length_take]; omega
    · rw [← ht, List.take_take]; congr 1; omega
theorem setF_setF {α : Type} (f : Nat → α) (x : Nat) (v w : α) : setF (setF f x v) x w = setF f x w := by
  funext y; unfold setF; split <;> rfl
theorem setF_get {α : Type} (f : Nat → α) (x : Nat) (v : α) : setF f x v x = v := if_pos rfl
theorem names_nodup {D : Dir} {ns : List Nm} (h : IsNames D ns) : ns.Nodup := h.1.imp fun hab e => by subst e; exact List.lt_irrefl _ hab
theorem names_len {D : Dir} {ns : List Nm} {hs : List Nat} (h : IsNames D ns) (hI : ∀ n m f, D n = some f → D m = some f → n = m) (hD : ∀ n f, D n = some f → f ∈ hs) : ns.length ≤ hs.length := by
  have hv : ∀ n ∈ ns, ∃ f, D n = some f := fun n hn => by
    cases hx : D n with
    | none => exact absurd hx ((h.2 n).1 hn)
    | some f => exact ⟨f, rfl⟩
  have := nodup_sub (ns.map fun n => (D n).getD 0) hs (by
    rw [List.Nodup, List.pairwise_map]
    refine (names_nodup h).imp_of_mem fun {a b} ha hb hne e => hne ?_
    obtain ⟨x, hx⟩ := hv a ha
    obtain ⟨y, hy⟩ := hv b hb
    rw [hx, hy] at e
    simp only [Option.getD_some] at e
    subst e
    exact hI _ _ _ hx hy) (fun x hx => by
    obtain ⟨n, hn, rfl⟩ := List.mem_map.1 hx
    obtain ⟨f, hf⟩ := hv n hn
    rw [hf]; exact hD _ _ hf)
  simpa using this
end Go.V
namespace Go.Proofs.YtgigigchjnnonaaGreatDoor
open Go Go.V
section
variable {H H0 H' H2 : Heap} {F F' : Nat → Prop} {b mb lb hb lb' hb' : Nat} {pv pv' : Value} {dv : Nat → Value} {s : St}
/-- Keys, then Sorted. -/
theorem keys_sorted {m : Nat} {D : Dir} {hs : List Nat} (hd : DirH H m D) (hN : ∀ n f, D n = some f → isNm n = true) (hI : ∀ n m f, D n = some f → D m = some f → n = m) (hD : ∀ n f, D n = some f → f ∈ hs) (hl : hs.length ≤ 1099511627776) {K : Value → Heap → Prop}
    (hk : ∀ v H' ns, IsNames D ns → V.Own H' (H.size + 1) 9 1 v (ns.map .string) → Ext H H' → K v H') :
    Fun Tryz.prog 53 #[.func (.func 174) #[] #[ptrOf H.size]] (H.push (.cells #[.map (some m)] 85)) K := by
  refine (F53 (bx := H.size) (m := m) (hs := hs) push_new ?_ hN hI hD hl).mono ?_
  · obtain ⟨l, c, mm, hg⟩ := hd
    exact ⟨l, c, mm.keep (push_old mm.lt), hg⟩
  · rintro v H' ⟨ns, h1, h2, h3⟩
    exact hk v H' ns h1 (by simpa using h2) ((Ext.push _).trans (h3.mono (by simp)))
/-- Another directory, made since. -/
theorem FsP.newDir (h0 : FsP H0 F b mb lb hb pv dv s) (x : Ext H0 H) {m' : Nat} {D : Dir} (hm : DirH H m' D) (hl : H0.size ≤ m') :
    hcan H b 1 1 ∧ ∃ F', FsP (hput H b 1 [.map (some m')]) F' b m' lb hb pv dv { s with now := D } ∧ Ch F F' H0 (hput H b 1 [.map (some m')]) := by
  have h := h0.ext x
  obtain ⟨vs, p1, p2⟩ := h.hp
  obtain ⟨q1, q2⟩ := h.put 1 (.map (some m')) (by omega)
  have kb : ∀ g, g ≠ b → (hput H b 1 [.map (some m')])[g]? = H[g]? := fun g hne => hput_other _ _ _ _ hne
  have kc : ∀ (g : Nat) (c : Array Value) (t : TypeId), H[g]? = some (.cells c t) → t ≠ 89 → (hput H b 1 [.map (some m')])[g]? = H[g]? := fun g c t hc ht => kb g (tag_ne hc h.hM ht)
  have km : ∀ g, (∃ es c, H[g]? = some (Obj.map es c)) → (hput H b 1 [.map (some m')])[g]? = H[g]? := fun g ⟨_, _, hm⟩ => kb g (map_ne h.hM hm).symm
  have e1 := h0.lt _ h0.fl
  have e2 := h0.lt _ h0.fh
  have hp' : ∃ vs, V.Own (hput H b 1 [.map (some m')]) 0 165 1 pv vs ∧ All2 (PendH (hput H b 1 [.map (some m')]) (fun g => F g ∨ g = m')) vs s.pend := by
    refine ⟨vs, p1.keep fun g hg => ?_, p2.mono fun v p hv => hv.keep (fun _ h => .inl h) fun g c t hg hc ht => kc g c t hc ?_⟩
    · obtain ⟨_, _, c, hc⟩ := p1.blk hg
      exact kc g _ _ hc (by decide : 165 ≠ 89)
    · rcases ht with rfl | rfl
      · exact (by decide : 115 ≠ 89)
      · exact (by decide : 9 ≠ 89)
  have hf' : ∀ f ∈ s.held, FileH (hput H b 1 [.map (some m')]) (fun g => F g ∨ g = m') f (dv f) (s.dat f) (s.syn f) := fun f hf => by
    refine (h.hf f hf).keep (fun _ h => .inl h) (kc f _ _ (h.hf f hf).2.1 (by decide : 117 ≠ 89)) fun g hg => ?_
    obtain ⟨_, _, c, hc⟩ := (h.hf f hf).2.2.1.blk hg
    exact kc g _ _ hc (by decide : 5 ≠ 89)
  refine ⟨q1, fun g => F g ∨ g = m', ⟨by rw [q2]; rfl, hm.keep (km _ hm.map), h.hL.keep (km _ h.hL.map), h.hH.keep (km _ h.hH.map), hp', hf', h.dis, ⟨by omega, by omega, h.ne.2.2⟩, .inl h.fb, .inr rfl, .inl h.fl, .inl h.fh, fun g hg => .inl (h.fp g hg), fun g hg => ?_⟩, ⟨by rw [hput_size]; exact x.size, fun g hg => ?_, fun g hg hnf => ?_⟩⟩
  · rw [hput_size]
    rcases hg with hg | rfl
    · exact h.lt g hg
    · exact hm.lt
  · rcases hg with hg | rfl
    · exact .inl hg
    · exact .inr hl
  · rw [kb g fun e => hnf (e ▸ h.fb)]; exact x.get g hg
set_option maxHeartbeats 3200000 in
theorem F24 (h : FsP H F b mb lb hb pv dv s) (ok : Ok s) (hn : s.ops < 1099511627776) (dir : Int) {v : Value} {cuts : List Int} (hv : Ints H 3 .i64 v cuts) (hvF : cuts ≠ [] → ∀ g, blk v = some g → ¬ F g) :
    Fun Tryz.prog 24 #[ptrOf b, .int .i64 dir, v] H (fun r H' => ∃ ns F', IsNames (afterD s.last dir s.pend 0) ns ∧ FsH H' F' b (crashS s dir cuts ns) ∧ Ch F F' H H') := by
  obtain ⟨a, cap, rfl⟩ := hv.form
  refine fun_of mixed (args := [_, _, _]) Tryz.func24 Tryz.ntmps24 b24 r24 rfl ?_
  simp only [go_sem, ↓reduceIte, Nat.reduceEqDiff, Nat.reduceLeDiff, Nat.reduceAdd, Nat.reduceMul, Nat.reduceSub, Nat.reduceBEq, Nat.reduceGT, Nat.reduceLT, Int.reduceLE, Int.reduceLT, Int.reduceNeg, reduceCtorEq, ptrOf]
  refine FunI.by (F52 h ok hn dir) ?_
  rintro _ H1 ⟨m', rfl, lm, d1, x1⟩
  obtain ⟨c1, F1, h1, ch1⟩ := h.newDir x1 d1 lm
  simp only [go_sem, ↓reduceIte, Nat.reduceEqDiff, Nat.reduceLeDiff, Nat.reduceAdd, Nat.reduceMul, Nat.reduceSub, Nat.reduceBEq, Nat.reduceGT, Nat.reduceLT, Int.reduceLE, Int.reduceLT, Int.reduceNeg, reduceCtorEq, c1]
  generalize hput H1 b 1 [.map (some m')] = H2 at *
  clear c1 d1 x1
  have ok1 := now_ok ok dir
  obtain ⟨_, q1, _, _, _, _, _, _⟩ := h1.get
  simp only [go_sem, ↓reduceIte, Nat.reduceEqDiff, Nat.reduceLeDiff, Nat.reduceAdd, Nat.reduceMul, Nat.reduceSub, Nat.reduceBEq, Nat.reduceGT, Nat.reduceLT, Int.reduceLE, Int.reduceLT, Int.reduceNeg, reduceCtorEq, q1]
  refine ⟨rfl, ?_⟩
  refine FunI.by (F54 m' H2) ?_
  rintro _ _ ⟨rfl, rfl⟩
  simp only [go_sem, ↓reduceIte, Nat.reduceEqDiff, Nat.reduceLeDiff, Nat.reduceAdd, Nat.reduceMul, Nat.reduceSub, Nat.reduceBEq, Nat.reduceGT, Nat.reduceLT, Int.reduceLE, Int.reduceLT, Int.reduceNeg, reduceCtorEq]
  have hhl := ok.hlen
  refine keys_sorted h1.hN ok1.nowN ok1.nowI ok1.nowH (by show s.held.length ≤ _; omega) ?_
  rintro v H3 ns hns o3 x3
  obtain ⟨a3, cap3, rfl⟩ := strs_form (ns := ns) o3.sl
  have h3 := h1.ext x3
  have sl3 : Strs H3 (.slice a3 ns.length cap3) ns := o3.sl
  simp only [go_sem, ↓reduceIte, Nat.reduceEqDiff, Nat.reduceLeDiff, Nat.reduceAdd, Nat.reduceMul, Nat.reduceSub, Nat.reduceBEq, Nat.reduceGT, Nat.reduceLT, Int.reduceLE, Int.reduceLT, Int.reduceNeg, reduceCtorEq]
  have hlt3 : ∀ g, F1 g → g < H2.size := h1.lt
  have hnl : ns.length ≤ s.held.length := names_len hns ok1.nowI ok1.nowH
  have nf3 : ∀ g, blk (Value.slice a3 ns.length cap3) = some g → ¬ F1 g := fun g hg hf => by have := (o3.blk hg).1; have := hlt3 g hf; omega
  refine LoopI.by mixed (fun ρ H' => ∃ (i : Nat) (sj : St) (Fj : Nat → Prop) (dvj : Nat → Value), ρ 0 = ptrOf b ∧ ρ 2 = .slice a cuts.length cap ∧ ρ 21 = .slice a3 ns.length cap3 ∧ ρ 22 = .int .i64 ns.length ∧ ρ 23 = .int .i64 i ∧ i ≤ ns.length ∧ FsP H' Fj b m' lb hb pv dvj sj ∧ Ok sj ∧ sj.now = afterD s.last dir s.pend 0 ∧
    cutsS cuts sj (ns.drop i) i = cutsS cuts { s with now := afterD s.last dir s.pend 0 } ns 0 ∧ Ch F1 Fj H3 H') (fun ρ _ => ns.length - (iof (ρ 23)).toNat) ?_ ?_
  · exact ⟨0, _, F1, dv, by simp only [go_sem, ↓reduceIte, Nat.reduceEqDiff, Nat.reduceLeDiff, Nat.reduceAdd, Nat.reduceMul, Nat.reduceSub, Nat.reduceBEq, Nat.reduceGT, Nat.reduceLT, Int.reduceLE, Int.reduceLT, Int.reduceNeg, reduceCtorEq, ptrOf], by simp only [go_sem, ↓reduceIte, Nat.reduceEqDiff, Nat.reduceLeDiff, Nat.reduceAdd, Nat.reduceMul, Nat.reduceSub, Nat.reduceBEq, Nat.reduceGT, Nat.reduceLT, Int.reduceLE, Int.reduceLT, Int.reduceNeg, reduceCtorEq], by simp only [go_sem, ↓reduceIte, Nat.reduceEqDiff, Nat.reduceLeDiff, Nat.reduceAdd, Nat.reduceMul, Nat.reduceSub, Nat.reduceBEq, Nat.reduceGT, Nat.reduceLT, Int.reduceLE, Int.reduceLT, Int.reduceNeg, reduceCtorEq], by simp only [go_sem, ↓reduceIte, Nat.reduceEqDiff, Nat.reduceLeDiff, Nat.reduceAdd, Nat.reduceMul, Nat.reduceSub, Nat.reduceBEq, Nat.reduceGT, Nat.reduceLT, Int.reduceLE, Int.reduceLT, Int.reduceNeg, reduceCtorEq], by simp only [go_sem, ↓reduceIte, Nat.reduceEqDiff, Nat.reduceLeDiff, Nat.reduceAdd, Nat.reduceMul, Nat.reduceSub, Nat.reduceBEq, Nat.reduceGT, Nat.reduceLT, Int.reduceLE, Int.reduceLT, Int.reduceNeg, reduceCtorEq]; rfl, by omega, h3, ok1, rfl, rfl, Ch.refl _ _⟩
  clear h1 q1
  rintro ρ H4 ⟨i, sj, Fj, dvj, e0, e2, e21, e22, e23, hi, h4, okj, hnow, hcut, chj⟩
  have hroom := okj.room
  by_cases hlt : i < ns.length
  · have z0 : (0 : Int) ≤ i := by omega
    have z1 : (i : Int) < ns.length := by omega
    have w1 : IntKind.i64.wrap ((i : Int) + 1) = ((i + 1 : Nat) : Int) := by rw [w64_id (by omega) (by omega)]; omega
    obtain ⟨g5, o5, rfl, hgn⟩ := strs_at (sl3.ch chj nf3) hlt
    obtain ⟨_, q1, _, _, _, _, _, _⟩ := h4.get
    have hdrop : ns.drop i = ns.getD i emptyNm :: ns.drop (i + 1) := by
      rw [List.drop_eq_getElem_cons hlt, List.getD_eq_getElem?_getD, List.getElem?_eq_getElem hlt]; rfl
    have hmem : ns.getD i emptyNm ∈ ns := by rw [List.getD_eq_getElem?_getD, List.getElem?_eq_getElem hlt]; exact List.getElem_mem _
    generalize ns.getD i emptyNm = n at *
    obtain ⟨x, hx⟩ : ∃ x, sj.now n = some x := by
      rw [hnow]
      cases hx : afterD s.last dir s.pend 0 n with
      | none => exact absurd hx ((hns.2 n).1 hmem)
      | some x => exact ⟨x, rfl⟩
    have hxh := okj.nowH _ _ hx
    have hsy := okj.syn x hxh
    have hdl := dat_le okj hxh
    obtain ⟨l, c, m1, m2⟩ := h4.hN
    simp only [go_sem, ↓reduceIte, Nat.reduceEqDiff, Nat.reduceLeDiff, Nat.reduceAdd, Nat.reduceMul, Nat.reduceSub, Nat.reduceBEq, Nat.reduceGT, Nat.reduceLT, Int.reduceLE, Int.reduceLT, Int.reduceNeg, reduceCtorEq, c24_L0, e0, e2, e21, e22, e23, z0, z1, Int.toNat_natCast, hgn, ptrOf, q1]
    refine RunI.by (lookup_run (keyed_str (und_str ty9)) (und_map ty85) (zero_ty ty115) m1 n trivial fun _ _ => trivial) ?_
    rintro _ _ ⟨rfl, rfl⟩
    rw [m2, hx]
    simp only [Option.map_some, Option.getD_some, ptrOf]
    have hfx := h4.hf x hxh
    obtain ⟨d0, d1, ⟨a4, cap4, hd4⟩, _⟩ := hfx.at
    have ow := hfx.2.2.1
    rw [hd4] at d0 ow
    have hcap4 : (sj.dat x).length ≤ cap4 := Sl.lecap ow.sl
    have w2 : IntKind.i64.wrap (((sj.dat x).length : Int) - ((sj.syn x : Nat) : Int)) = (((sj.dat x).length - sj.syn x : Nat) : Int) := by rw [w64_id (by omega) (by omega)]; omega
    rw [hdrop] at hcut
    have hcut2 : cutsS cuts (cutS sj x (moreI cuts i)) (ns.drop (i + 1)) (i + 1) = cutsS cuts { s with now := afterD s.last dir s.pend 0 } ns 0 := by
      rw [← hcut]
      show _ = cutsS cuts (match sj.now n with | some x => cutS sj x (moreI cuts i) | none => sj) (ns.drop (i + 1)) (i + 1)
      rw [hx]
    obtain ⟨mo, hmo⟩ : ∃ mo, mo = moreI cuts i := ⟨_, rfl⟩
    rw [← hmo] at hcut2
    have k0 : cutLen sj x mo ≤ (sj.dat x).length := by unfold cutLen; omega
    have w3 : IntKind.i64.wrap (((sj.syn x : Nat) : Int) + ((min mo ((sj.dat x).length - sj.syn x) : Nat) : Int)) = ((cutLen sj x mo : Nat) : Int) := by rw [w64_id (by omega) (by omega)]; unfold cutLen; omega
    have z5 : (0 : Int) ≤ ((cutLen sj x mo : Nat) : Int) := by omega
    have z6 : ((cutLen sj x mo : Nat) : Int) ≤ cap4 := by omega
    have eadd : (if cap4 = 0 then a4 else Option.map (fun x => x) a4) = a4 := by split; rfl; cases a4 <;> rfl
    have cn0 : hcan H4 x 0 1 := hcan_of hfx.2.1 (by simp)
    have ow2 : V.Own H4 0 5 1 (.slice a4 (cutLen sj x mo) cap4) (((sj.dat x).take (cutLen sj x mo)).map (.int .u8)) := by rw [List.map_take]; exact ow.cutL k0
    have hfc : H4[x]? = some (.cells #[.slice a4 (sj.dat x).length cap4, .int .i64 (sj.syn x)] 117) := by rw [← hd4]; exact hfx.2.1
    have keepo : ∀ {v : Value} {vs : List Value} {o : Nat} {ys : List Value} {G : Heap} {c : Array Value}, G[x]? = some (.cells c 117) → V.Own G 0 5 1 v vs → V.Own (hput G x o ys) 0 5 1 v vs := fun hG ho => ho.keep fun g hg => hput_other _ _ _ _ (by obtain ⟨_, _, c, hc⟩ := ho.blk hg; exact tag_ne hc hG (by decide : 5 ≠ 117))
    obtain ⟨Fa, h5, cha⟩ := h4.setFile (H' := hput H4 x 0 [.slice a4 (cutLen sj x mo) cap4]) hxh (v' := .slice a4 (cutLen sj x mo) cap4) (d' := (sj.dat x).take (cutLen sj x mo)) (sy' := sj.syn x) (by rw [hput_size]; exact Nat.le_refl _) (fun g _ hne _ => hput_other _ _ _ _ hne)
      (by rw [hput_same hfc]; rfl) (keepo hfc ow2) (.inl (by rw [hd4]; cases a4 <;> rfl))
    rw [setF_self] at h5
    have hf5 : (hput H4 x 0 [.slice a4 (cutLen sj x mo) cap4])[x]? = some (.cells #[.slice a4 (cutLen sj x mo) cap4, .int .i64 (sj.syn x)] 117) := by rw [hput_same hfc]; rfl
    have d5 : hget (hput H4 x 0 [.slice a4 (cutLen sj x mo) cap4]) x 0 = some (.slice a4 (cutLen sj x mo) cap4) := by rw [hget_cells hf5]; rfl
    have cn1 : hcan (hput H4 x 0 [.slice a4 (cutLen sj x mo) cap4]) x 1 1 := hcan_of hf5 (by simp)
    obtain ⟨Fb, h6, chb⟩ := h5.setFile (H' := hput (hput H4 x 0 [.slice a4 (cutLen sj x mo) cap4]) x 1 [.int .i64 (cutLen sj x mo)]) hxh (v' := .slice a4 (cutLen sj x mo) cap4) (d' := (sj.dat x).take (cutLen sj x mo)) (sy' := cutLen sj x mo) (by rw [hput_size (hput H4 x 0 [.slice a4 (cutLen sj x mo) cap4])]; exact Nat.le_refl _) (fun g _ hne _ => hput_other _ _ _ _ hne)
      (by rw [hput_same hf5]; rfl) (keepo hf5 (keepo hfc ow2)) (.inl (by rw [setF_get]))
    simp only [setF_setF] at h6
    have okc := cut_ok okj hxh mo
    by_cases hc : i < cuts.length
    · have z2 : (i : Int) < cuts.length := by omega
      have hvc : Ints H4 3 .i64 (.slice a cuts.length cap) cuts := by
        have hq := Sl.ch hv ((ch1.trans x3.ch).trans chj) (hvF fun e => by rw [e] at hc; simp at hc)
        exact hq
      obtain ⟨g6, o6, rfl⟩ := hvc.at hc
      have hcv := hvc.get hc
      have emx : (if (0 : Int) > cuts.getD i 0 then (0 : Int) else cuts.getD i 0) = ((mo : Nat) : Int) := by rw [hmo]; unfold moreI; split <;> omega
      have emin : (if (((sj.dat x).length - sj.syn x : Nat) : Int) < ((mo : Nat) : Int) then (((sj.dat x).length - sj.syn x : Nat) : Int) else ((mo : Nat) : Int)) = ((min mo ((sj.dat x).length - sj.syn x) : Nat) : Int) := by split <;> omega
      simp only [go_sem, ↓reduceIte, Nat.reduceEqDiff, Nat.reduceLeDiff, Nat.reduceAdd, Nat.reduceMul, Nat.reduceSub, Nat.reduceBEq, Nat.reduceGT, Nat.reduceLT, Int.reduceLE, Int.reduceLT, Int.reduceNeg, reduceCtorEq, e0, e2, e21, e22, e23, z0, z1, z2, Int.toNat_natCast, hcv, emx, emin, w2, w3, z5, z6, d0, d1, eadd, cn0, d5, cn1, w1]
      refine ⟨rfl, rfl, Hold.mk ⟨i + 1, cutS sj x mo, Fb, _, by simp only [go_sem, ↓reduceIte, Nat.reduceEqDiff, Nat.reduceLeDiff, Nat.reduceAdd, Nat.reduceMul, Nat.reduceSub, Nat.reduceBEq, Nat.reduceGT, Nat.reduceLT, Int.reduceLE, Int.reduceLT, Int.reduceNeg, reduceCtorEq, e0, ptrOf], by simp only [go_sem, ↓reduceIte, Nat.reduceEqDiff, Nat.reduceLeDiff, Nat.reduceAdd, Nat.reduceMul, Nat.reduceSub, Nat.reduceBEq, Nat.reduceGT, Nat.reduceLT, Int.reduceLE, Int.reduceLT, Int.reduceNeg, reduceCtorEq, e2], by simp only [go_sem, ↓reduceIte, Nat.reduceEqDiff, Nat.reduceLeDiff, Nat.reduceAdd, Nat.reduceMul, Nat.reduceSub, Nat.reduceBEq, Nat.reduceGT, Nat.reduceLT, Int.reduceLE, Int.reduceLT, Int.reduceNeg, reduceCtorEq, e21], by simp only [go_sem, ↓reduceIte, Nat.reduceEqDiff, Nat.reduceLeDiff, Nat.reduceAdd, Nat.reduceMul, Nat.reduceSub, Nat.reduceBEq, Nat.reduceGT, Nat.reduceLT, Int.reduceLE, Int.reduceLT, Int.reduceNeg, reduceCtorEq, e22], by simp only [go_sem, ↓reduceIte, Nat.reduceEqDiff, Nat.reduceLeDiff, Nat.reduceAdd, Nat.reduceMul, Nat.reduceSub, Nat.reduceBEq, Nat.reduceGT, Nat.reduceLT, Int.reduceLE, Int.reduceLT, Int.reduceNeg, reduceCtorEq], by omega, h6, okc, hnow, hcut2, (chj.trans cha).trans chb⟩, by omega⟩
    · have hmo0 : mo = 0 := by rw [hmo]; unfold moreI; rw [List.getD_eq_getElem?_getD, List.getElem?_eq_none (by omega)]; rfl
      have z2 : ¬ (i : Int) < cuts.length := by omega
      have emin : (if (((sj.dat x).length - sj.syn x : Nat) : Int) < (0 : Int) then (((sj.dat x).length - sj.syn x : Nat) : Int) else (0 : Int)) = ((min mo ((sj.dat x).length - sj.syn x) : Nat) : Int) := by split <;> omega
      simp only [go_sem, ↓reduceIte, Nat.reduceEqDiff, Nat.reduceLeDiff, Nat.reduceAdd, Nat.reduceMul, Nat.reduceSub, Nat.reduceBEq, Nat.reduceGT, Nat.reduceLT, Int.reduceLE, Int.reduceLT, Int.reduceNeg, reduceCtorEq, e0, e2, e21, e22, e23, z0, z1, z2, Int.toNat_natCast, emin, w2, w3, z5, z6, d0, d1, eadd, cn0, d5, cn1, w1]
      refine ⟨rfl, rfl, Hold.mk ⟨i + 1, cutS sj x mo, Fb, _, by simp only [go_sem, ↓reduceIte, Nat.reduceEqDiff, Nat.reduceLeDiff, Nat.reduceAdd, Nat.reduceMul, Nat.reduceSub, Nat.reduceBEq, Nat.reduceGT, Nat.reduceLT, Int.reduceLE, Int.reduceLT, Int.reduceNeg, reduceCtorEq, e0, ptrOf], by simp only [go_sem, ↓reduceIte, Nat.reduceEqDiff, Nat.reduceLeDiff, Nat.reduceAdd, Nat.reduceMul, Nat.reduceSub, Nat.reduceBEq, Nat.reduceGT, Nat.reduceLT, Int.reduceLE, Int.reduceLT, Int.reduceNeg, reduceCtorEq, e2], by simp only [go_sem, ↓reduceIte, Nat.reduceEqDiff, Nat.reduceLeDiff, Nat.reduceAdd, Nat.reduceMul, Nat.reduceSub, Nat.reduceBEq, Nat.reduceGT, Nat.reduceLT, Int.reduceLE, Int.reduceLT, Int.reduceNeg, reduceCtorEq, e21], by simp only [go_sem, ↓reduceIte, Nat.reduceEqDiff, Nat.reduceLeDiff, Nat.reduceAdd, Nat.reduceMul, Nat.reduceSub, Nat.reduceBEq, Nat.reduceGT, Nat.reduceLT, Int.reduceLE, Int.reduceLT, Int.reduceNeg, reduceCtorEq, e22], by simp only [go_sem, ↓reduceIte, Nat.reduceEqDiff, Nat.reduceLeDiff, Nat.reduceAdd, Nat.reduceMul, Nat.reduceSub, Nat.reduceBEq, Nat.reduceGT, Nat.reduceLT, Int.reduceLE, Int.reduceLT, Int.reduceNeg, reduceCtorEq], by omega, h6, okc, hnow, hcut2, (chj.trans cha).trans chb⟩, by omega⟩
  · have hie : i = ns.length := by omega
    have z1 : ¬ (i : Int) < ns.length := by omega
    rw [hie, List.drop_length] at hcut
    have hcut : sj = cutsS cuts { s with now := afterD s.last dir s.pend 0 } ns 0 := hcut
    simp only [go_sem, ↓reduceIte, Nat.reduceEqDiff, Nat.reduceLeDiff, Nat.reduceAdd, Nat.reduceMul, Nat.reduceSub, Nat.reduceBEq, Nat.reduceGT, Nat.reduceLT, Int.reduceLE, Int.reduceLT, Int.reduceNeg, reduceCtorEq, c24_L0, e0, e22, e23, z1]
    refine FunI.by (F55 h4 okj.nowH okj.nd) ?_
    rintro r5 H5 ⟨F5, lb5, hb5, h5, ch5⟩
    have p1 := h5.put 5 (.bool false) (by omega)
    obtain ⟨u1, v1⟩ := h5.setB (s' := { settleS sj with off := false }) rfl rfl rfl rfl rfl rfl rfl (hput_size _ _ _ _) (fun g hg => hput_other _ _ _ _ hg) (by rw [p1.2]; rfl)
    have p2 := u1.put 6 (.int .i64 0) (by omega)
    obtain ⟨u2, v2⟩ := u1.setB (s' := { settleS sj with off := false, fuse := 0 }) rfl rfl rfl rfl rfl rfl rfl (hput_size _ _ _ _) (fun g hg => hput_other _ _ _ _ hg) (by rw [p2.2]; rfl)
    simp only [go_sem, ↓reduceIte, Nat.reduceEqDiff, Nat.reduceLeDiff, Nat.reduceAdd, Nat.reduceMul, Nat.reduceSub, Nat.reduceBEq, Nat.reduceGT, Nat.reduceLT, Int.reduceLE, Int.reduceLT, Int.reduceNeg, reduceCtorEq, e0, ptrOf, p1.1, p2.1]
    have ec : crashS s dir cuts ns = { settleS sj with off := false, fuse := 0 } := by unfold crashS; rw [← hcut]
    refine ⟨rfl, rfl, ns, F5, hns, ?_, ((((ch1.trans x3.ch).trans chj).trans ch5).trans v1).trans v2⟩
    rw [ec]
    exact ⟨_, _, _, _, _, u2⟩
end
end Go.Proofs.YtgigigchjnnonaaGreatDoor
